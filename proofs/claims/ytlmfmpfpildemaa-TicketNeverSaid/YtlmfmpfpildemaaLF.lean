/-
  Steps of the bodies, from checkpoint to checkpoint (printed by wip/VE/mk2.py).
-/
import Derived.Test.YtlmfmpfpildemaaT
import Derived.Test.YtlmfmpfpildemaaLA
namespace Go.Proofs.Ytlmfmpfpildemaa
open Go VE

/-! ### (*triage/ticket.Book).find$1 -/
abbrev isId.ps : List AK := [.d true TKey, .p (.int .i64)]
def isId.pre : ElA isId.ps → Bool := fun (x : (El TKey) × Int × Unit) => fits TKey (x.1) && (fits (.int .i64) (x.2.1) && (true))
def isId.res : ElA isId.ps → IV := fun (x : (El TKey) × Int × Unit) => (fun k x => vb (keyA x k)) x.1 x.2.1
def isId.sp : ISpec := spOf isId.ps isId.pre isId.res
abbrev isId.OK : Prop := SpecOK Try.prog 28 isId.sp
noncomputable def isId.body : Code := bodyOf Try.f28
noncomputable def isId.rs : List ResultVar := Try.f28.results.toList
def isId.live : List (Nat × Live) := []
noncomputable def isId.specs  : List (Nat × (List Bool × ISpec)) := []
noncomputable def isId.ospecs  : List (Nat × OS) := []
noncomputable def isId.cfg  : Cfg := ⟨lkp tab, lkp (isId.specs ), lkp isId.live, ⟨lkp (isId.ospecs ), [], none, false⟩⟩
noncomputable def isId.go  (m : Nat) (x0 : (El TKey)) (x1 : Int) : R := run (isId.cfg ) 8 isId.rs m [.code isId.body] (enter (ivA isId.ps (x0, x1, ())))
theorem isId.start  (m : Nat) (x0 : (El TKey)) (x1 : Int) : isId.go  (m + 1) x0 x1 =
  some ((.c (.v (.bool (x0.1 == x1)))), []) := by kernel_rfl
theorem isId.run_eq  (m : Nat) (x0 : (El TKey)) (x1 : Int) : run (isId.cfg ) Try.f28.ntmps Try.f28.results.toList m [.code (bodyOf Try.f28)] (enter (ivA isId.ps (x0, x1, ()))) = isId.go  m x0 x1 := by kernel_rfl
theorem isId.ret  (hs : SpecsOK Try.prog (isId.specs ))  (x0 : (El TKey)) (x1 : Int) {m : Nat} {r : IV} (h : isId.go  m x0 x1 = some (r, [])) : VE.Returns Try.prog 28 (ivA isId.ps (x0, x1, ())) r :=
  returns_of_run (cfg := isId.cfg ) (cfgOK_of mixed tab_ok hs .nil) rfl Try.func28 (body_some (by kernel_rfl)) (Nat.le_of_ble_eq_true (by kernel_rfl)) ((isId.run_eq  m x0 x1).trans h)
abbrev isId.Law : Prop := ∀ (x0 : (El TKey)) (x1 : Int), isId.pre (x0, x1, ()) = true → VE.Returns Try.prog 28 (ivA isId.ps (x0, x1, ())) (isId.res (x0, x1, ()))
theorem isId.mkR (H : ∀ (x0 : (El TKey)) (x1 : Int), isId.pre (x0, x1, ()) = true → VE.Returns Try.prog 28 (ivA isId.ps (x0, x1, ())) (isId.res (x0, x1, ()))) : SpecOK Try.prog 28 isId.sp :=
  specOf_ret Try.func28 (by kernel_rfl) (by kernel_rfl) fun (x : (El TKey) × Int × Unit) hx => H (x.1) (x.2.1) hx
theorem isId.mk  (hs : SpecsOK Try.prog (isId.specs ))  (H : ∀ (x0 : (El TKey)) (x1 : Int), isId.pre (x0, x1, ()) = true → ∃ m, isId.go  m x0 x1 = some (isId.res (x0, x1, ()), [])) : SpecOK Try.prog 28 isId.sp :=
  isId.mkR fun x0 x1 hx => (H x0 x1 hx).elim fun _ hm => isId.ret  hs  x0 x1 hm

/-! ### slices.IndexFunc(()triage/order.Key,triage/order.Key) -/
abbrev ixId.ps : List AK := [.d false (.sl TKey), .f 28 [(true, (.int .i64))]]
def ixId.pre : ElA ixId.ps → Bool := fun (x : (List (El TKey)) × (Int × Unit) × Unit) => fits (.sl TKey) (x.1) && (fits (.int .i64) (x.2.1.1) && (true))
def ixId.res : ElA ixId.ps → IV := fun (x : (List (El TKey)) × (Int × Unit) × Unit) => (fun l x => vi .i64 (ixOf (keyA x.1) l)) x.1 x.2.1
def ixId.sp : ISpec := spOf ixId.ps ixId.pre ixId.res
abbrev ixId.OK : Prop := SpecOK Try.prog 27 ixId.sp
noncomputable def ixId.body : Code := bodyOf Try.f27
noncomputable def ixId.rs : List ResultVar := Try.f27.results.toList
def ixId.live : List (Nat × Live) := [(2, ⟨[(0, .sl TKey), (1, .plain), (7, .plain), (8, .plain)], []⟩)]
noncomputable def ixId.specs  : List (Nat × (List Bool × ISpec)) := [(28, ([], isId.sp))]
noncomputable def ixId.ospecs  : List (Nat × OS) := []
noncomputable def ixId.cfg  : Cfg := ⟨lkp tab, lkp (ixId.specs ), lkp ixId.live, ⟨lkp (ixId.ospecs ), [], none, false⟩⟩
noncomputable def ixId.l1  (m : Nat) (x0 : List (El TKey)) (x1 : Int) (x2 : Int) (x3 : Int) : R := run (ixId.cfg ) 19 ixId.rs m ((todoR 2 ixId.body []).getD []) ⟨ofList (.c .junk) [(0, (.c (.sl TKey x0))), (1, (.c (.fn 28 [(.snap [(.v (.int .i64 x1))] 0)]))), (7, (.c (.v (.int .i64 x2)))), (8, (.c (.v (.int .i64 x3))))], ofList none [], ofList false []⟩
noncomputable def ixId.go  (m : Nat) (x0 : (List (El TKey))) (x1 : (Int × Unit)) : R := run (ixId.cfg ) 19 ixId.rs m [.code ixId.body] (enter (ivA ixId.ps (x0, x1, ())))
theorem ixId.start  (m : Nat) (x0 : (List (El TKey))) (x1 : (Int × Unit)) : ixId.go  (m + 1) x0 x1 =
  ixId.l1  m x0 x1.1 ((List.length x0) : Int) (0 : Int) := by kernel_rfl
theorem ixId.s1  (m : Nat) (x0 : List (El TKey)) (x1 : Int) (x2 : Int) (x3 : Int) : ixId.l1  (m + 1) x0 x1 x2 x3 =
  cond (decide (x3 < x2)) (
   test (decide ((0 : Int) ≤ x3)) (
    test (decide (x3 < ((List.length x0) : Int))) (
     cond (keyA x1 ((rdEl TKey x0 (Int.toNat x3)))) (
      some ((.c (.v (.int .i64 x3))), [])) (
      ixId.l1  m x0 x1 x2 (IntKind.i64.wrap (x3 + (1 : Int))))))) (
   some ((.c (.v (.int .i64 (-(1 : Int))))), [])) := by kernel_rfl
theorem ixId.run_eq  (m : Nat) (x0 : (List (El TKey))) (x1 : (Int × Unit)) : run (ixId.cfg ) Try.f27.ntmps Try.f27.results.toList m [.code (bodyOf Try.f27)] (enter (ivA ixId.ps (x0, x1, ()))) = ixId.go  m x0 x1 := by kernel_rfl
theorem ixId.ret  (hs : SpecsOK Try.prog (ixId.specs ))  (x0 : (List (El TKey))) (x1 : (Int × Unit)) {m : Nat} {r : IV} (h : ixId.go  m x0 x1 = some (r, [])) : VE.Returns Try.prog 27 (ivA ixId.ps (x0, x1, ())) r :=
  returns_of_run (cfg := ixId.cfg ) (cfgOK_of mixed tab_ok hs .nil) rfl Try.func27 (body_some (by kernel_rfl)) (Nat.le_of_ble_eq_true (by kernel_rfl)) ((ixId.run_eq  m x0 x1).trans h)
abbrev ixId.Law : Prop := ∀ (x0 : (List (El TKey))) (x1 : (Int × Unit)), ixId.pre (x0, x1, ()) = true → VE.Returns Try.prog 27 (ivA ixId.ps (x0, x1, ())) (ixId.res (x0, x1, ()))
theorem ixId.mkR (H : ∀ (x0 : (List (El TKey))) (x1 : (Int × Unit)), ixId.pre (x0, x1, ()) = true → VE.Returns Try.prog 27 (ivA ixId.ps (x0, x1, ())) (ixId.res (x0, x1, ()))) : SpecOK Try.prog 27 ixId.sp :=
  specOf_ret Try.func27 (by kernel_rfl) (by kernel_rfl) fun (x : (List (El TKey)) × (Int × Unit) × Unit) hx => H (x.1) (x.2.1) hx
theorem ixId.mk  (hs : SpecsOK Try.prog (ixId.specs ))  (H : ∀ (x0 : (List (El TKey))) (x1 : (Int × Unit)), ixId.pre (x0, x1, ()) = true → ∃ m, ixId.go  m x0 x1 = some (ixId.res (x0, x1, ()), [])) : SpecOK Try.prog 27 ixId.sp :=
  ixId.mkR fun x0 x1 hx => (H x0 x1 hx).elim fun _ hm => ixId.ret  hs  x0 x1 hm

/-! ### (*triage/ticket.Book).Drop$1 -/
abbrev isHost.ps : List AK := [.d true TKey, .p (.int .i64)]
def isHost.pre : ElA isHost.ps → Bool := fun (x : (El TKey) × Int × Unit) => fits TKey (x.1) && (fits (.int .i64) (x.2.1) && (true))
def isHost.res : ElA isHost.ps → IV := fun (x : (El TKey) × Int × Unit) => (fun k x => vb (keyB x k)) x.1 x.2.1
def isHost.sp : ISpec := spOf isHost.ps isHost.pre isHost.res
abbrev isHost.OK : Prop := SpecOK Try.prog 26 isHost.sp
noncomputable def isHost.body : Code := bodyOf Try.f26
noncomputable def isHost.rs : List ResultVar := Try.f26.results.toList
def isHost.live : List (Nat × Live) := []
noncomputable def isHost.specs  : List (Nat × (List Bool × ISpec)) := []
noncomputable def isHost.ospecs  : List (Nat × OS) := []
noncomputable def isHost.cfg  : Cfg := ⟨lkp tab, lkp (isHost.specs ), lkp isHost.live, ⟨lkp (isHost.ospecs ), [], none, false⟩⟩
noncomputable def isHost.go  (m : Nat) (x0 : (El TKey)) (x1 : Int) : R := run (isHost.cfg ) 8 isHost.rs m [.code isHost.body] (enter (ivA isHost.ps (x0, x1, ())))
theorem isHost.start  (m : Nat) (x0 : (El TKey)) (x1 : Int) : isHost.go  (m + 1) x0 x1 =
  some ((.c (.v (.bool (x0.2 == x1)))), []) := by kernel_rfl
theorem isHost.run_eq  (m : Nat) (x0 : (El TKey)) (x1 : Int) : run (isHost.cfg ) Try.f26.ntmps Try.f26.results.toList m [.code (bodyOf Try.f26)] (enter (ivA isHost.ps (x0, x1, ()))) = isHost.go  m x0 x1 := by kernel_rfl
theorem isHost.ret  (hs : SpecsOK Try.prog (isHost.specs ))  (x0 : (El TKey)) (x1 : Int) {m : Nat} {r : IV} (h : isHost.go  m x0 x1 = some (r, [])) : VE.Returns Try.prog 26 (ivA isHost.ps (x0, x1, ())) r :=
  returns_of_run (cfg := isHost.cfg ) (cfgOK_of mixed tab_ok hs .nil) rfl Try.func26 (body_some (by kernel_rfl)) (Nat.le_of_ble_eq_true (by kernel_rfl)) ((isHost.run_eq  m x0 x1).trans h)
abbrev isHost.Law : Prop := ∀ (x0 : (El TKey)) (x1 : Int), isHost.pre (x0, x1, ()) = true → VE.Returns Try.prog 26 (ivA isHost.ps (x0, x1, ())) (isHost.res (x0, x1, ()))
theorem isHost.mkR (H : ∀ (x0 : (El TKey)) (x1 : Int), isHost.pre (x0, x1, ()) = true → VE.Returns Try.prog 26 (ivA isHost.ps (x0, x1, ())) (isHost.res (x0, x1, ()))) : SpecOK Try.prog 26 isHost.sp :=
  specOf_ret Try.func26 (by kernel_rfl) (by kernel_rfl) fun (x : (El TKey) × Int × Unit) hx => H (x.1) (x.2.1) hx
theorem isHost.mk  (hs : SpecsOK Try.prog (isHost.specs ))  (H : ∀ (x0 : (El TKey)) (x1 : Int), isHost.pre (x0, x1, ()) = true → ∃ m, isHost.go  m x0 x1 = some (isHost.res (x0, x1, ()), [])) : SpecOK Try.prog 26 isHost.sp :=
  isHost.mkR fun x0 x1 hx => (H x0 x1 hx).elim fun _ hm => isHost.ret  hs  x0 x1 hm

/-! ### slices.IndexFunc(()triage/order.Key,triage/order.Key) -/
abbrev ixHost.ps : List AK := [.d false (.sl TKey), .f 26 [(true, (.int .i64))]]
def ixHost.pre : ElA ixHost.ps → Bool := fun (x : (List (El TKey)) × (Int × Unit) × Unit) => fits (.sl TKey) (x.1) && (fits (.int .i64) (x.2.1.1) && (true))
def ixHost.res : ElA ixHost.ps → IV := fun (x : (List (El TKey)) × (Int × Unit) × Unit) => (fun l x => vi .i64 (ixOf (keyB x.1) l)) x.1 x.2.1
def ixHost.sp : ISpec := spOf ixHost.ps ixHost.pre ixHost.res
abbrev ixHost.OK : Prop := SpecOK Try.prog 27 ixHost.sp
noncomputable def ixHost.body : Code := bodyOf Try.f27
noncomputable def ixHost.rs : List ResultVar := Try.f27.results.toList
def ixHost.live : List (Nat × Live) := [(2, ⟨[(0, .sl TKey), (1, .plain), (7, .plain), (8, .plain)], []⟩)]
noncomputable def ixHost.specs  : List (Nat × (List Bool × ISpec)) := [(26, ([], isHost.sp))]
noncomputable def ixHost.ospecs  : List (Nat × OS) := []
noncomputable def ixHost.cfg  : Cfg := ⟨lkp tab, lkp (ixHost.specs ), lkp ixHost.live, ⟨lkp (ixHost.ospecs ), [], none, false⟩⟩
noncomputable def ixHost.l1  (m : Nat) (x0 : List (El TKey)) (x1 : Int) (x2 : Int) (x3 : Int) : R := run (ixHost.cfg ) 19 ixHost.rs m ((todoR 2 ixHost.body []).getD []) ⟨ofList (.c .junk) [(0, (.c (.sl TKey x0))), (1, (.c (.fn 26 [(.snap [(.v (.int .i64 x1))] 0)]))), (7, (.c (.v (.int .i64 x2)))), (8, (.c (.v (.int .i64 x3))))], ofList none [], ofList false []⟩
noncomputable def ixHost.go  (m : Nat) (x0 : (List (El TKey))) (x1 : (Int × Unit)) : R := run (ixHost.cfg ) 19 ixHost.rs m [.code ixHost.body] (enter (ivA ixHost.ps (x0, x1, ())))
theorem ixHost.start  (m : Nat) (x0 : (List (El TKey))) (x1 : (Int × Unit)) : ixHost.go  (m + 1) x0 x1 =
  ixHost.l1  m x0 x1.1 ((List.length x0) : Int) (0 : Int) := by kernel_rfl
theorem ixHost.s1  (m : Nat) (x0 : List (El TKey)) (x1 : Int) (x2 : Int) (x3 : Int) : ixHost.l1  (m + 1) x0 x1 x2 x3 =
  cond (decide (x3 < x2)) (
   test (decide ((0 : Int) ≤ x3)) (
    test (decide (x3 < ((List.length x0) : Int))) (
     cond (keyB x1 ((rdEl TKey x0 (Int.toNat x3)))) (
      some ((.c (.v (.int .i64 x3))), [])) (
      ixHost.l1  m x0 x1 x2 (IntKind.i64.wrap (x3 + (1 : Int))))))) (
   some ((.c (.v (.int .i64 (-(1 : Int))))), [])) := by kernel_rfl
theorem ixHost.run_eq  (m : Nat) (x0 : (List (El TKey))) (x1 : (Int × Unit)) : run (ixHost.cfg ) Try.f27.ntmps Try.f27.results.toList m [.code (bodyOf Try.f27)] (enter (ivA ixHost.ps (x0, x1, ()))) = ixHost.go  m x0 x1 := by kernel_rfl
theorem ixHost.ret  (hs : SpecsOK Try.prog (ixHost.specs ))  (x0 : (List (El TKey))) (x1 : (Int × Unit)) {m : Nat} {r : IV} (h : ixHost.go  m x0 x1 = some (r, [])) : VE.Returns Try.prog 27 (ivA ixHost.ps (x0, x1, ())) r :=
  returns_of_run (cfg := ixHost.cfg ) (cfgOK_of mixed tab_ok hs .nil) rfl Try.func27 (body_some (by kernel_rfl)) (Nat.le_of_ble_eq_true (by kernel_rfl)) ((ixHost.run_eq  m x0 x1).trans h)
abbrev ixHost.Law : Prop := ∀ (x0 : (List (El TKey))) (x1 : (Int × Unit)), ixHost.pre (x0, x1, ()) = true → VE.Returns Try.prog 27 (ivA ixHost.ps (x0, x1, ())) (ixHost.res (x0, x1, ()))
theorem ixHost.mkR (H : ∀ (x0 : (List (El TKey))) (x1 : (Int × Unit)), ixHost.pre (x0, x1, ()) = true → VE.Returns Try.prog 27 (ivA ixHost.ps (x0, x1, ())) (ixHost.res (x0, x1, ()))) : SpecOK Try.prog 27 ixHost.sp :=
  specOf_ret Try.func27 (by kernel_rfl) (by kernel_rfl) fun (x : (List (El TKey)) × (Int × Unit) × Unit) hx => H (x.1) (x.2.1) hx
theorem ixHost.mk  (hs : SpecsOK Try.prog (ixHost.specs ))  (H : ∀ (x0 : (List (El TKey))) (x1 : (Int × Unit)), ixHost.pre (x0, x1, ()) = true → ∃ m, ixHost.go  m x0 x1 = some (ixHost.res (x0, x1, ()), [])) : SpecOK Try.prog 27 ixHost.sp :=
  ixHost.mkR fun x0 x1 hx => (H x0 x1 hx).elim fun _ hm => ixHost.ret  hs  x0 x1 hm

/-! ### slices.Delete(()triage/order.Key,triage/order.Key) -/
abbrev del.ps : List AK := [.m 54 TKey, .d false (.int .i64), .d false (.int .i64)]
def del.pre : ElA del.ps → Bool := fun (x : (List (El TKey)) × Int × Int × Unit) => fits (.sl TKey) (x.1) && (fits (.int .i64) (x.2.1) && (fits (.int .i64) (x.2.2.1) && ((fun l i j => decide (0 ≤ i ∧ i ≤ j ∧ j ≤ (List.length l : Int))) x.1 x.2.1 x.2.2.1 && (true))))
def del.rv : ElA del.ps → List RV := fun (x : (List (El TKey)) × Int × Int × Unit) => [.m 54 TKey ((fun l i j => cutOut l i.toNat j.toNat) x.1 x.2.1 x.2.2.1)]
def del.res : ElA del.ps → IV := fun x => oneOrTup (rvIVs 0 (del.rv x))
def del.back : ElA del.ps → List (Nat × Box) := fun (x : (List (El TKey)) × Int × Int × Unit) => rvBxs 0 (del.rv x)
def del.sp : OSpec := spO del.ps del.pre del.res del.back
abbrev del.OK : Prop := SpecOKO Try.prog 24 del.sp
noncomputable def del.body : Code := bodyOf Try.f24
noncomputable def del.rs : List ResultVar := Try.f24.results.toList
def del.live : List (Nat × Live) := []
noncomputable def del.specs  : List (Nat × (List Bool × ISpec)) := []
noncomputable def del.ospecs  : List (Nat × OS) := []
noncomputable def del.cfg  : Cfg := ⟨lkp tab, lkp (del.specs ), lkp del.live, ⟨lkp (del.ospecs ), oids 0 del.ps, some ([.arr 54 TKey], []), true⟩⟩
noncomputable def del.go  (m : Nat) (x0 : (List (El TKey))) (x1 : Int) (x2 : Int) : R := run (del.cfg ) 33 del.rs m [.code del.body] (enterO (ivAO 0 del.ps (x0, x1, x2, ())) (bxAO 0 del.ps (x0, x1, x2, ())))
theorem del.start  (m : Nat) (x0 : (List (El TKey))) (x1 : Int) (x2 : Int) : del.go  (m + 1) x0 x1 x2 =
  test (decide (((List.length x0) : Int) ≤ ((List.length x0) : Int))) (
   test (decide ((0 : Int) ≤ x2)) (
    test (decide (x2 ≤ ((List.length x0) : Int))) (
     test (decide ((0 : Int) ≤ x1)) (
      test (decide (x1 ≤ x2)) (
       cond (x1 == x2) (
        some ((.c (.sref 115326)), [(115326, (.arr 54 TKey x0 false))])) (
        test (decide ((0 : Int) ≤ x1)) (
         test (decide (x1 ≤ ((List.length x0) : Int))) (
          test (decide ((0 : Int) ≤ x2)) (
           test (decide (x2 ≤ ((List.length x0) : Int))) (
            test (decide (((0 + (Int.toNat x2)) + ((List.length x0) - (Int.toNat x2))) ≤ (List.length x0))) (
             test (decide ((((0 + 0) + ((Int.toNat x1) - 0)) + (List.length (List.take ((List.length x0) - (Int.toNat x2)) (List.drop (0 + (Int.toNat x2)) x0)))) ≤ (List.length x0))) (
              test (decide ((((0 + 0) + ((Int.toNat x1) - 0)) + (List.length (List.take ((List.length x0) - (Int.toNat x2)) (List.drop (0 + (Int.toNat x2)) x0)))) ≤ (List.length x0))) (
               test (decide (((List.length x0) : Int) ≤ (((List.length (over x0 ((0 + 0) + ((Int.toNat x1) - 0)) (List.take ((List.length x0) - (Int.toNat x2)) (List.drop (0 + (Int.toNat x2)) x0)))) - (0 + 0)) : Int))) (
                test (decide (((((Int.toNat x1) - 0) + (List.length (List.take ((List.length x0) - (Int.toNat x2)) (List.drop (0 + (Int.toNat x2)) x0)))) : Int) ≤ ((Int.toNat ((List.length x0) : Int)) : Int))) (
                 test (decide ((((0 + 0) + (Int.toNat ((((Int.toNat x1) - 0) + (List.length (List.take ((List.length x0) - (Int.toNat x2)) (List.drop (0 + (Int.toNat x2)) x0)))) : Int))) + (List.length (List.replicate ((Int.toNat ((List.length x0) : Int)) - (Int.toNat ((((Int.toNat x1) - 0) + (List.length (List.take ((List.length x0) - (Int.toNat x2)) (List.drop (0 + (Int.toNat x2)) x0)))) : Int))) ((0 : Int), (0 : Int))))) ≤ (List.length (over x0 ((0 + 0) + ((Int.toNat x1) - 0)) (List.take ((List.length x0) - (Int.toNat x2)) (List.drop (0 + (Int.toNat x2)) x0)))))) (
                  test (decide ((((Int.toNat x1) - 0) + (List.length (List.take ((List.length x0) - (Int.toNat x2)) (List.drop (0 + (Int.toNat x2)) x0)))) ≤ (List.length (over (over x0 ((0 + 0) + ((Int.toNat x1) - 0)) (List.take ((List.length x0) - (Int.toNat x2)) (List.drop (0 + (Int.toNat x2)) x0))) ((0 + 0) + (Int.toNat ((((Int.toNat x1) - 0) + (List.length (List.take ((List.length x0) - (Int.toNat x2)) (List.drop (0 + (Int.toNat x2)) x0)))) : Int))) (List.replicate ((Int.toNat ((List.length x0) : Int)) - (Int.toNat ((((Int.toNat x1) - 0) + (List.length (List.take ((List.length x0) - (Int.toNat x2)) (List.drop (0 + (Int.toNat x2)) x0)))) : Int))) ((0 : Int), (0 : Int))))))) (
                   some ((.c (.sref 115326)), [(115326, (.arr 54 TKey (List.take (((Int.toNat x1) - 0) + (List.length (List.take ((List.length x0) - (Int.toNat x2)) (List.drop (0 + (Int.toNat x2)) x0)))) (over (over x0 ((0 + 0) + ((Int.toNat x1) - 0)) (List.take ((List.length x0) - (Int.toNat x2)) (List.drop (0 + (Int.toNat x2)) x0))) ((0 + 0) + (Int.toNat ((((Int.toNat x1) - 0) + (List.length (List.take ((List.length x0) - (Int.toNat x2)) (List.drop (0 + (Int.toNat x2)) x0)))) : Int))) (List.replicate ((Int.toNat ((List.length x0) : Int)) - (Int.toNat ((((Int.toNat x1) - 0) + (List.length (List.take ((List.length x0) - (Int.toNat x2)) (List.drop (0 + (Int.toNat x2)) x0)))) : Int))) ((0 : Int), (0 : Int))))) false))])))))))))))))))))) := by kernel_rfl
theorem del.run_eq  (m : Nat) (x0 : (List (El TKey))) (x1 : Int) (x2 : Int) : run (del.cfg ) Try.f24.ntmps Try.f24.results.toList m [.code (bodyOf Try.f24)] (enterO (ivAO 0 del.ps (x0, x1, x2, ())) (bxAO 0 del.ps (x0, x1, x2, ()))) = del.go  m x0 x1 x2 := by kernel_rfl
theorem del.ret  (hs : SpecsOK Try.prog (del.specs ))  (x0 : (List (El TKey))) (x1 : Int) (x2 : Int) {m : Nat} {r : IV} {b : List (Nat × Box)} (h : del.go  m x0 x1 x2 = some (r, b)) : VE.ReturnsO Try.prog 24 (ivAO 0 del.ps (x0, x1, x2, ())) (bxAO 0 del.ps (x0, x1, x2, ())) r b :=
  returnsO_of_run (cfg := del.cfg ) (cfgOK_of mixed tab_ok hs .nil) rfl Try.func24 (body_some (by kernel_rfl)) (Nat.le_of_ble_eq_true (by kernel_rfl)) (fun _ _ _ h => oids_mem h) ((del.run_eq  m x0 x1 x2).trans h)
abbrev del.Law : Prop := ∀ (x0 : (List (El TKey))) (x1 : Int) (x2 : Int), del.pre (x0, x1, x2, ()) = true → VE.ReturnsO Try.prog 24 (ivAO 0 del.ps (x0, x1, x2, ())) (bxAO 0 del.ps (x0, x1, x2, ())) (del.res (x0, x1, x2, ())) (del.back (x0, x1, x2, ()))
theorem del.mkR (H : ∀ (x0 : (List (El TKey))) (x1 : Int) (x2 : Int), del.pre (x0, x1, x2, ()) = true → VE.ReturnsO Try.prog 24 (ivAO 0 del.ps (x0, x1, x2, ())) (bxAO 0 del.ps (x0, x1, x2, ())) (del.res (x0, x1, x2, ())) (del.back (x0, x1, x2, ()))) : SpecOKO Try.prog 24 del.sp :=
  specO_ret Try.func24 (by kernel_rfl) (by kernel_rfl) fun (x : (List (El TKey)) × Int × Int × Unit) hx => H (x.1) (x.2.1) (x.2.2.1) hx
theorem del.mk  (hs : SpecsOK Try.prog (del.specs ))  (H : ∀ (x0 : (List (El TKey))) (x1 : Int) (x2 : Int), del.pre (x0, x1, x2, ()) = true → ∃ m, del.go  m x0 x1 x2 = some (del.res (x0, x1, x2, ()), del.back (x0, x1, x2, ()))) : SpecOKO Try.prog 24 del.sp :=
  del.mkR fun x0 x1 x2 hx => (H x0 x1 x2 hx).elim fun _ hm => del.ret  hs  x0 x1 x2 hm

/-! ### slices.DeleteFunc(()triage/order.Key,triage/order.Key) -/
abbrev delHost.ps : List AK := [.m 54 TKey, .f 26 [(true, (.int .i64))]]
def delHost.pre : ElA delHost.ps → Bool := fun (x : (List (El TKey)) × (Int × Unit) × Unit) => fits (.sl TKey) (x.1) && (fits (.int .i64) (x.2.1.1) && (true))
def delHost.rv : ElA delHost.ps → List RV := fun (x : (List (El TKey)) × (Int × Unit) × Unit) => [.m 54 TKey ((fun l x => dropL x.1 l) x.1 x.2.1)]
def delHost.res : ElA delHost.ps → IV := fun x => oneOrTup (rvIVs 0 (delHost.rv x))
def delHost.back : ElA delHost.ps → List (Nat × Box) := fun (x : (List (El TKey)) × (Int × Unit) × Unit) => rvBxs 0 (delHost.rv x)
def delHost.sp : OSpec := spO delHost.ps delHost.pre delHost.res delHost.back
abbrev delHost.OK : Prop := SpecOKO Try.prog 25 delHost.sp
noncomputable def delHost.body : Code := bodyOf Try.f25
noncomputable def delHost.rs : List ResultVar := Try.f25.results.toList
def delHost.live : List (Nat × Live) := [(5, ⟨[(0, .arr 54 TKey), (1, .plain), (5, .plain), (6, .plain)], []⟩)]
noncomputable def delHost.specs  : List (Nat × (List Bool × ISpec)) := [(26, ([], isHost.sp)), (27, ([], ixHost.sp))]
noncomputable def delHost.ospecs  : List (Nat × OS) := []
noncomputable def delHost.cfg  : Cfg := ⟨lkp tab, lkp (delHost.specs ), lkp delHost.live, ⟨lkp (delHost.ospecs ), oids 0 delHost.ps, some ([.arr 54 TKey], []), true⟩⟩
noncomputable def delHost.l1  (m : Nat) (x0 : Int) (x1 : Int) (x2 : Int) (x3 : List (El TKey)) : R := run (delHost.cfg ) 42 delHost.rs m ((todoR 5 delHost.body []).getD []) ⟨ofList (.c .junk) [(0, (.c (.sref 126))), (1, (.c (.fn 26 [(.snap [(.v (.int .i64 x0))] 0)]))), (5, (.c (.v (.int .i64 x1)))), (6, (.c (.v (.int .i64 x2))))], ofList none [(126, some (.arr 54 TKey x3 false))], ofList false [(126, true)]⟩
noncomputable def delHost.go  (m : Nat) (x0 : (List (El TKey))) (x1 : (Int × Unit)) : R := run (delHost.cfg ) 42 delHost.rs m [.code delHost.body] (enterO (ivAO 0 delHost.ps (x0, x1, ())) (bxAO 0 delHost.ps (x0, x1, ())))
theorem delHost.start  (m : Nat) (x0 : (List (El TKey))) (x1 : (Int × Unit)) : delHost.go  (m + 1) x0 x1 =
  test (ixHost.pre (x0, ((x1.1, Unit.unit), Unit.unit))) (
   cond ((ixOf (keyB x1.1) x0) == (-(1 : Int))) (
    some ((.c (.sref 115326)), [(115326, (.arr 54 TKey x0 false))])) (
    delHost.l1  m x1.1 (ixOf (keyB x1.1) x0) (IntKind.i64.wrap ((ixOf (keyB x1.1) x0) + (1 : Int))) x0)) := by kernel_rfl
theorem delHost.s1  (m : Nat) (x0 : Int) (x1 : Int) (x2 : Int) (x3 : List (El TKey)) : delHost.l1  (m + 1) x0 x1 x2 x3 =
  cond (decide (x2 < ((List.length x3) : Int))) (
   test (decide ((0 : Int) ≤ x2)) (
    test (decide (x2 < ((List.length x3) : Int))) (
     cond (Bool.not (keyB x0 ((rdEl TKey x3 (Int.toNat x2))))) (
      test (decide ((0 : Int) ≤ x1)) (
       test (decide (x1 < ((List.length x3) : Int))) (
        delHost.l1  m x0 (IntKind.i64.wrap (x1 + (1 : Int))) (IntKind.i64.wrap (x2 + (1 : Int))) (List.set x3 (Int.toNat x1) ((rdEl TKey x3 (Int.toNat x2))))))) (
      delHost.l1  m x0 x1 (IntKind.i64.wrap (x2 + (1 : Int))) x3)))) (
   test (decide ((0 : Int) ≤ x1)) (
    test (decide (x1 ≤ ((List.length x3) : Int))) (
     test (decide (((0 + (Int.toNat x1)) + (List.length (List.replicate ((List.length x3) - (Int.toNat x1)) ((0 : Int), (0 : Int))))) ≤ (List.length x3))) (
      test (decide ((0 : Int) ≤ x1)) (
       test (decide (x1 ≤ ((List.length (over x3 (0 + (Int.toNat x1)) (List.replicate ((List.length x3) - (Int.toNat x1)) ((0 : Int), (0 : Int))))) : Int))) (
        test (decide (((Int.toNat x1) - 0) ≤ (List.length (over x3 (0 + (Int.toNat x1)) (List.replicate ((List.length x3) - (Int.toNat x1)) ((0 : Int), (0 : Int))))))) (
         some ((.c (.sref 115326)), [(115326, (.arr 54 TKey (List.take ((Int.toNat x1) - 0) (over x3 (0 + (Int.toNat x1)) (List.replicate ((List.length x3) - (Int.toNat x1)) ((0 : Int), (0 : Int))))) false))])))))))) := by kernel_rfl
theorem delHost.run_eq  (m : Nat) (x0 : (List (El TKey))) (x1 : (Int × Unit)) : run (delHost.cfg ) Try.f25.ntmps Try.f25.results.toList m [.code (bodyOf Try.f25)] (enterO (ivAO 0 delHost.ps (x0, x1, ())) (bxAO 0 delHost.ps (x0, x1, ()))) = delHost.go  m x0 x1 := by kernel_rfl
theorem delHost.ret  (hs : SpecsOK Try.prog (delHost.specs ))  (x0 : (List (El TKey))) (x1 : (Int × Unit)) {m : Nat} {r : IV} {b : List (Nat × Box)} (h : delHost.go  m x0 x1 = some (r, b)) : VE.ReturnsO Try.prog 25 (ivAO 0 delHost.ps (x0, x1, ())) (bxAO 0 delHost.ps (x0, x1, ())) r b :=
  returnsO_of_run (cfg := delHost.cfg ) (cfgOK_of mixed tab_ok hs .nil) rfl Try.func25 (body_some (by kernel_rfl)) (Nat.le_of_ble_eq_true (by kernel_rfl)) (fun _ _ _ h => oids_mem h) ((delHost.run_eq  m x0 x1).trans h)
abbrev delHost.Law : Prop := ∀ (x0 : (List (El TKey))) (x1 : (Int × Unit)), delHost.pre (x0, x1, ()) = true → VE.ReturnsO Try.prog 25 (ivAO 0 delHost.ps (x0, x1, ())) (bxAO 0 delHost.ps (x0, x1, ())) (delHost.res (x0, x1, ())) (delHost.back (x0, x1, ()))
theorem delHost.mkR (H : ∀ (x0 : (List (El TKey))) (x1 : (Int × Unit)), delHost.pre (x0, x1, ()) = true → VE.ReturnsO Try.prog 25 (ivAO 0 delHost.ps (x0, x1, ())) (bxAO 0 delHost.ps (x0, x1, ())) (delHost.res (x0, x1, ())) (delHost.back (x0, x1, ()))) : SpecOKO Try.prog 25 delHost.sp :=
  specO_ret Try.func25 (by kernel_rfl) (by kernel_rfl) fun (x : (List (El TKey)) × (Int × Unit) × Unit) hx => H (x.1) (x.2.1) hx
theorem delHost.mk  (hs : SpecsOK Try.prog (delHost.specs ))  (H : ∀ (x0 : (List (El TKey))) (x1 : (Int × Unit)), delHost.pre (x0, x1, ()) = true → ∃ m, delHost.go  m x0 x1 = some (delHost.res (x0, x1, ()), delHost.back (x0, x1, ()))) : SpecOKO Try.prog 25 delHost.sp :=
  delHost.mkR fun x0 x1 hx => (H x0 x1 hx).elim fun _ hm => delHost.ret  hs  x0 x1 hm

/-! ### (*triage/ticket.Book).find -/
abbrev find.ps : List AK := [.p TBook, .d false (.int .i64)]
def find.pre : ElA find.ps → Bool := fun (x : (El TBook) × Int × Unit) => fits TBook (x.1) && (fits (.int .i64) (x.2.1) && (true))
def find.res : ElA find.ps → IV := fun (x : (El TBook) × Int × Unit) => (fun b i => vi .i64 (ixOf (keyA i) b.2)) x.1 x.2.1
def find.sp : ISpec := spOf find.ps find.pre find.res
abbrev find.OK : Prop := SpecOK Try.prog 23 find.sp
noncomputable def find.body : Code := bodyOf Try.f23
noncomputable def find.rs : List ResultVar := Try.f23.results.toList
def find.live : List (Nat × Live) := []
noncomputable def find.specs  : List (Nat × (List Bool × ISpec)) := [(27, ([], ixId.sp))]
noncomputable def find.ospecs  : List (Nat × OS) := []
noncomputable def find.cfg  : Cfg := ⟨lkp tab, lkp (find.specs ), lkp find.live, ⟨lkp (find.ospecs ), [], none, false⟩⟩
noncomputable def find.go  (m : Nat) (x0 : (El TBook)) (x1 : Int) : R := run (find.cfg ) 13 find.rs m [.code find.body] (enter (ivA find.ps (x0, x1, ())))
theorem find.start  (m : Nat) (x0 : (El TBook)) (x1 : Int) : find.go  (m + 1) x0 x1 =
  test (ixId.pre (x0.2, ((x1, Unit.unit), Unit.unit))) (
   some ((.c (.v (.int .i64 (ixOf (keyA x1) x0.2)))), [])) := by kernel_rfl
theorem find.run_eq  (m : Nat) (x0 : (El TBook)) (x1 : Int) : run (find.cfg ) Try.f23.ntmps Try.f23.results.toList m [.code (bodyOf Try.f23)] (enter (ivA find.ps (x0, x1, ()))) = find.go  m x0 x1 := by kernel_rfl
theorem find.ret  (hs : SpecsOK Try.prog (find.specs ))  (x0 : (El TBook)) (x1 : Int) {m : Nat} {r : IV} (h : find.go  m x0 x1 = some (r, [])) : VE.Returns Try.prog 23 (ivA find.ps (x0, x1, ())) r :=
  returns_of_run (cfg := find.cfg ) (cfgOK_of mixed tab_ok hs .nil) rfl Try.func23 (body_some (by kernel_rfl)) (Nat.le_of_ble_eq_true (by kernel_rfl)) ((find.run_eq  m x0 x1).trans h)
abbrev find.Law : Prop := ∀ (x0 : (El TBook)) (x1 : Int), find.pre (x0, x1, ()) = true → VE.Returns Try.prog 23 (ivA find.ps (x0, x1, ())) (find.res (x0, x1, ()))
theorem find.mkR (H : ∀ (x0 : (El TBook)) (x1 : Int), find.pre (x0, x1, ()) = true → VE.Returns Try.prog 23 (ivA find.ps (x0, x1, ())) (find.res (x0, x1, ()))) : SpecOK Try.prog 23 find.sp :=
  specOf_ret Try.func23 (by kernel_rfl) (by kernel_rfl) fun (x : (El TBook) × Int × Unit) hx => H (x.1) (x.2.1) hx
theorem find.mk  (hs : SpecsOK Try.prog (find.specs ))  (H : ∀ (x0 : (El TBook)) (x1 : Int), find.pre (x0, x1, ()) = true → ∃ m, find.go  m x0 x1 = some (find.res (x0, x1, ()), [])) : SpecOK Try.prog 23 find.sp :=
  find.mkR fun x0 x1 hx => (H x0 x1 hx).elim fun _ hm => find.ret  hs  x0 x1 hm

/-! ### (*triage/ticket.Book).find -/
abbrev findZ.ps : List AK := [.z, .d false (.int .i64)]
def findZ.pre : ElA findZ.ps → Bool := fun (x : Int × Unit) => fits (.int .i64) (x.1) && (true)
def findZ.res : ElA findZ.ps → IV := fun (x : Int × Unit) => (fun _ => vi .i64 (-1)) x.1
def findZ.sp : ISpec := spOf findZ.ps findZ.pre findZ.res
abbrev findZ.OK : Prop := SpecOK Try.prog 23 findZ.sp
noncomputable def findZ.body : Code := bodyOf Try.f23
noncomputable def findZ.rs : List ResultVar := Try.f23.results.toList
def findZ.live : List (Nat × Live) := []
noncomputable def findZ.specs  : List (Nat × (List Bool × ISpec)) := []
noncomputable def findZ.ospecs  : List (Nat × OS) := []
noncomputable def findZ.cfg  : Cfg := ⟨lkp tab, lkp (findZ.specs ), lkp findZ.live, ⟨lkp (findZ.ospecs ), [], none, false⟩⟩
noncomputable def findZ.go  (m : Nat) (x0 : Int) : R := run (findZ.cfg ) 13 findZ.rs m [.code findZ.body] (enter (ivA findZ.ps (x0, ())))
theorem findZ.start  (m : Nat) (x0 : Int) : findZ.go  (m + 1) x0 =
  some ((.c (.v (.int .i64 (-(1 : Int))))), []) := by kernel_rfl
theorem findZ.run_eq  (m : Nat) (x0 : Int) : run (findZ.cfg ) Try.f23.ntmps Try.f23.results.toList m [.code (bodyOf Try.f23)] (enter (ivA findZ.ps (x0, ()))) = findZ.go  m x0 := by kernel_rfl
theorem findZ.ret  (hs : SpecsOK Try.prog (findZ.specs ))  (x0 : Int) {m : Nat} {r : IV} (h : findZ.go  m x0 = some (r, [])) : VE.Returns Try.prog 23 (ivA findZ.ps (x0, ())) r :=
  returns_of_run (cfg := findZ.cfg ) (cfgOK_of mixed tab_ok hs .nil) rfl Try.func23 (body_some (by kernel_rfl)) (Nat.le_of_ble_eq_true (by kernel_rfl)) ((findZ.run_eq  m x0).trans h)
abbrev findZ.Law : Prop := ∀ (x0 : Int), findZ.pre (x0, ()) = true → VE.Returns Try.prog 23 (ivA findZ.ps (x0, ())) (findZ.res (x0, ()))
theorem findZ.mkR (H : ∀ (x0 : Int), findZ.pre (x0, ()) = true → VE.Returns Try.prog 23 (ivA findZ.ps (x0, ())) (findZ.res (x0, ()))) : SpecOK Try.prog 23 findZ.sp :=
  specOf_ret Try.func23 (by kernel_rfl) (by kernel_rfl) fun (x : Int × Unit) hx => H (x.1) hx
theorem findZ.mk  (hs : SpecsOK Try.prog (findZ.specs ))  (H : ∀ (x0 : Int), findZ.pre (x0, ()) = true → ∃ m, findZ.go  m x0 = some (findZ.res (x0, ()), [])) : SpecOK Try.prog 23 findZ.sp :=
  findZ.mkR fun x0 hx => (H x0 hx).elim fun _ hm => findZ.ret  hs  x0 hm

/-! ### triage/ticket.New -/
abbrev new.ps : List AK := []
def new.pre : ElA new.ps → Bool := fun (x : Unit) => true
def new.rv : ElA new.ps → List RV := fun (x : Unit) => [.o 52 TBook [none, some 54] (((0, [])) )]
def new.res : ElA new.ps → IV := fun x => oneOrTup (rvIVs 0 (new.rv x))
def new.back : ElA new.ps → List (Nat × Box) := fun (x : Unit) => rvBxs 0 (new.rv x)
def new.sp : OSpec := spO new.ps new.pre new.res new.back
abbrev new.OK : Prop := SpecOKO Try.prog 9 new.sp
noncomputable def new.body : Code := bodyOf Try.f9
noncomputable def new.rs : List ResultVar := Try.f9.results.toList
def new.live : List (Nat × Live) := []
noncomputable def new.specs  : List (Nat × (List Bool × ISpec)) := []
noncomputable def new.ospecs  : List (Nat × OS) := []
noncomputable def new.cfg  : Cfg := ⟨lkp tab, lkp (new.specs ), lkp new.live, ⟨lkp (new.ospecs ), oids 0 new.ps, some ([.obj [.plain, .arr 54 TKey]], []), false⟩⟩
noncomputable def new.go  (m : Nat)  : R := run (new.cfg ) 3 new.rs m [.code new.body] (enterO (ivAO 0 new.ps ()) (bxAO 0 new.ps ()))
theorem new.start  (m : Nat)  : new.go  (m + 1)  =
  some ((.c (.ref 115326 0)), [(115326, (.cells 52 [(.v (.int .i64 (0 : Int))), (.sref 14889730)])), (14889730, (.arr 54 TKey ([] : List (El TKey)) false))]) := by kernel_rfl
theorem new.run_eq  (m : Nat)  : run (new.cfg ) Try.f9.ntmps Try.f9.results.toList m [.code (bodyOf Try.f9)] (enterO (ivAO 0 new.ps ()) (bxAO 0 new.ps ())) = new.go  m  := by kernel_rfl
theorem new.ret  (hs : SpecsOK Try.prog (new.specs ))   {m : Nat} {r : IV} {b : List (Nat × Box)} (h : new.go  m  = some (r, b)) : VE.ReturnsO Try.prog 9 (ivAO 0 new.ps ()) (bxAO 0 new.ps ()) r b :=
  returnsO_of_run (cfg := new.cfg ) (cfgOK_of mixed tab_ok hs .nil) rfl Try.func9 (body_some (by kernel_rfl)) (Nat.le_of_ble_eq_true (by kernel_rfl)) (fun _ _ _ h => oids_mem h) ((new.run_eq  m ).trans h)
abbrev new.Law : Prop := ∀ (_ : Unit), new.pre () = true → VE.ReturnsO Try.prog 9 (ivAO 0 new.ps ()) (bxAO 0 new.ps ()) (new.res ()) (new.back ())
theorem new.mkR (H : ∀ (_ : Unit), new.pre () = true → VE.ReturnsO Try.prog 9 (ivAO 0 new.ps ()) (bxAO 0 new.ps ()) (new.res ()) (new.back ())) : SpecOKO Try.prog 9 new.sp :=
  specO_ret Try.func9 (by kernel_rfl) (by kernel_rfl) fun (x : Unit) hx => H () hx
theorem new.mk  (hs : SpecsOK Try.prog (new.specs ))  (H : ∀ (_ : Unit), new.pre () = true → ∃ m, new.go  m  = some (new.res (), new.back ())) : SpecOKO Try.prog 9 new.sp :=
  new.mkR fun _ hx => (H () hx).elim fun _ hm => new.ret  hs   hm

/-! ### (*triage/ticket.Book).Open -/
abbrev open.ps : List AK := [.o 52 TBook [none, some 54], .d false (.int .i64)]
def open.pre : ElA open.ps → Bool := fun (x : (El TBook) × Int × Unit) => fits TBook (x.1) && (fits (.int .i64) (x.2.1) && (true))
def open.rv : ElA open.ps → List RV := fun (x : (El TBook) × Int × Unit) => [.d ((fun b h => vi .i64 (openI b)) x.1 x.2.1), .d ((fun b h => vi .i64 (openE b)) x.1 x.2.1)]
def open.res : ElA open.ps → IV := fun x => oneOrTup (rvIVs 0 (open.rv x))
def open.back : ElA open.ps → List (Nat × Box) := fun (x : (El TBook) × Int × Unit) => rvBxs 0 (open.rv x) ++ objBx 0 52 TBook [none, some 54] ((fun b h => openB b h) x.1 x.2.1)
def open.sp : OSpec := spO open.ps open.pre open.res open.back
abbrev open.OK : Prop := SpecOKO Try.prog 10 open.sp
noncomputable def open.body : Code := bodyOf Try.f10
noncomputable def open.rs : List ResultVar := Try.f10.results.toList
def open.live : List (Nat × Live) := []
noncomputable def open.specs  : List (Nat × (List Bool × ISpec)) := []
noncomputable def open.ospecs  : List (Nat × OS) := []
noncomputable def open.cfg  : Cfg := ⟨lkp tab, lkp (open.specs ), lkp open.live, ⟨lkp (open.ospecs ), oids 0 open.ps, some ([.plain, .plain], [(oid 0, [.plain, .arr 54 TKey])]), false⟩⟩
noncomputable def open.go  (m : Nat) (x0 : (El TBook)) (x1 : Int) : R := run (open.cfg ) 40 open.rs m [.code open.body] (enterO (ivAO 0 open.ps (x0, x1, ())) (bxAO 0 open.ps (x0, x1, ())))
theorem open.start  (m : Nat) (x0 : (El TBook)) (x1 : Int) : open.go  (m + 1) x0 x1 =
  cond (decide (((List.length x0.2) : Int) ≥ (2000 : Int))) (
   some ((.tup [(.c (.v (.int .i64 (0 : Int)))), (.c (.v (.int .i64 (6 : Int))))]), [(102526, (.cells 52 [(.v (.int .i64 x0.1)), (.sref 13251330)])), (13251330, (.arr 54 TKey x0.2 false))])) (
   test (decide (((List.length x0.2) + (List.length (((IntKind.i64.wrap (x0.1 + (1 : Int))), x1) :: ([] : List (El TKey))))) ≤ (lim 16))) (
    some ((.tup [(.c (.v (.int .i64 (IntKind.i64.wrap (x0.1 + (1 : Int)))))), (.c (.v (.int .i64 (0 : Int))))]), [(102526, (.cells 52 [(.v (.int .i64 (IntKind.i64.wrap (x0.1 + (1 : Int))))), (.sref 13251330)])), (13251330, (.arr 54 TKey (x0.2 ++ (((IntKind.i64.wrap (x0.1 + (1 : Int))), x1) :: ([] : List (El TKey)))) false))]))) := by kernel_rfl
theorem open.run_eq  (m : Nat) (x0 : (El TBook)) (x1 : Int) : run (open.cfg ) Try.f10.ntmps Try.f10.results.toList m [.code (bodyOf Try.f10)] (enterO (ivAO 0 open.ps (x0, x1, ())) (bxAO 0 open.ps (x0, x1, ()))) = open.go  m x0 x1 := by kernel_rfl
theorem open.ret  (hs : SpecsOK Try.prog (open.specs ))  (x0 : (El TBook)) (x1 : Int) {m : Nat} {r : IV} {b : List (Nat × Box)} (h : open.go  m x0 x1 = some (r, b)) : VE.ReturnsO Try.prog 10 (ivAO 0 open.ps (x0, x1, ())) (bxAO 0 open.ps (x0, x1, ())) r b :=
  returnsO_of_run (cfg := open.cfg ) (cfgOK_of mixed tab_ok hs .nil) rfl Try.func10 (body_some (by kernel_rfl)) (Nat.le_of_ble_eq_true (by kernel_rfl)) (fun _ _ _ h => oids_mem h) ((open.run_eq  m x0 x1).trans h)
abbrev open.Law : Prop := ∀ (x0 : (El TBook)) (x1 : Int), open.pre (x0, x1, ()) = true → VE.ReturnsO Try.prog 10 (ivAO 0 open.ps (x0, x1, ())) (bxAO 0 open.ps (x0, x1, ())) (open.res (x0, x1, ())) (open.back (x0, x1, ()))
theorem open.mkR (H : ∀ (x0 : (El TBook)) (x1 : Int), open.pre (x0, x1, ()) = true → VE.ReturnsO Try.prog 10 (ivAO 0 open.ps (x0, x1, ())) (bxAO 0 open.ps (x0, x1, ())) (open.res (x0, x1, ())) (open.back (x0, x1, ()))) : SpecOKO Try.prog 10 open.sp :=
  specO_ret Try.func10 (by kernel_rfl) (by kernel_rfl) fun (x : (El TBook) × Int × Unit) hx => H (x.1) (x.2.1) hx
theorem open.mk  (hs : SpecsOK Try.prog (open.specs ))  (H : ∀ (x0 : (El TBook)) (x1 : Int), open.pre (x0, x1, ()) = true → ∃ m, open.go  m x0 x1 = some (open.res (x0, x1, ()), open.back (x0, x1, ()))) : SpecOKO Try.prog 10 open.sp :=
  open.mkR fun x0 x1 hx => (H x0 x1 hx).elim fun _ hm => open.ret  hs  x0 x1 hm

/-! ### (*triage/ticket.Book).Close -/
abbrev close.ps : List AK := [.o 52 TBook [none, some 54], .d false (.int .i64)]
def close.pre : ElA close.ps → Bool := fun (x : (El TBook) × Int × Unit) => fits TBook (x.1) && (fits (.int .i64) (x.2.1) && (true))
def close.rv : ElA close.ps → List RV := fun (x : (El TBook) × Int × Unit) => [.d ((fun b i => vi .i64 (closeI b i)) x.1 x.2.1), .d ((fun b i => vi .i64 (closeE b i)) x.1 x.2.1)]
def close.res : ElA close.ps → IV := fun x => oneOrTup (rvIVs 0 (close.rv x))
def close.back : ElA close.ps → List (Nat × Box) := fun (x : (El TBook) × Int × Unit) => rvBxs 0 (close.rv x) ++ objBx 0 52 TBook [none, some 54] ((fun b i => closeB b i) x.1 x.2.1)
def close.sp : OSpec := spO close.ps close.pre close.res close.back
abbrev close.OK : Prop := SpecOKO Try.prog 11 close.sp
noncomputable def close.body : Code := bodyOf Try.f11
noncomputable def close.rs : List ResultVar := Try.f11.results.toList
def close.live : List (Nat × Live) := []
noncomputable def close.specs  : List (Nat × (List Bool × ISpec)) := [(23, ([], find.sp))]
noncomputable def close.ospecs  : List (Nat × OS) := [(24, ⟨[some (.arr 54 TKey)], [], del.sp⟩)]
noncomputable def close.cfg  : Cfg := ⟨lkp tab, lkp (close.specs ), lkp close.live, ⟨lkp (close.ospecs ), oids 0 close.ps, some ([.plain, .plain], [(oid 0, [.plain, .arr 54 TKey])]), false⟩⟩
noncomputable def close.go  (m : Nat) (x0 : (El TBook)) (x1 : Int) : R := run (close.cfg ) 35 close.rs m [.code close.body] (enterO (ivAO 0 close.ps (x0, x1, ())) (bxAO 0 close.ps (x0, x1, ())))
theorem close.start  (m : Nat) (x0 : (El TBook)) (x1 : Int) : close.go  (m + 1) x0 x1 =
  test (find.pre (x0, (x1, Unit.unit))) (
   cond (decide ((ixOf (keyA x1) x0.2) < (0 : Int))) (
    some ((.tup [(.c (.v (.int .i64 (0 : Int)))), (.c (.v (.int .i64 (4 : Int))))]), [(102526, (.cells 52 [(.v (.int .i64 x0.1)), (.sref 13251330)])), (13251330, (.arr 54 TKey x0.2 false))])) (
    test (decide ((0 : Int) ≤ (ixOf (keyA x1) x0.2))) (
     test (decide ((ixOf (keyA x1) x0.2) < ((List.length x0.2) : Int))) (
      test (del.pre (x0.2, ((ixOf (keyA x1) x0.2), ((IntKind.i64.wrap ((ixOf (keyA x1) x0.2) + (1 : Int))), Unit.unit)))) (
       some ((.tup [(.c (.v (.int .i64 ((rdEl TKey x0.2 (Int.toNat (ixOf (keyA x1) x0.2)))).2))), (.c (.v (.int .i64 (0 : Int))))]), [(102526, (.cells 52 [(.v (.int .i64 x0.1)), (.sref 13251330)])), (13251330, (.arr 54 TKey (cutOut x0.2 (Int.toNat (ixOf (keyA x1) x0.2)) (Int.toNat (IntKind.i64.wrap ((ixOf (keyA x1) x0.2) + (1 : Int))))) false))])))))) := by kernel_rfl
theorem close.run_eq  (m : Nat) (x0 : (El TBook)) (x1 : Int) : run (close.cfg ) Try.f11.ntmps Try.f11.results.toList m [.code (bodyOf Try.f11)] (enterO (ivAO 0 close.ps (x0, x1, ())) (bxAO 0 close.ps (x0, x1, ()))) = close.go  m x0 x1 := by kernel_rfl
theorem close.ret  (hs : SpecsOK Try.prog (close.specs )) (ho : OSpecsOK Try.prog (close.ospecs )) (x0 : (El TBook)) (x1 : Int) {m : Nat} {r : IV} {b : List (Nat × Box)} (h : close.go  m x0 x1 = some (r, b)) : VE.ReturnsO Try.prog 11 (ivAO 0 close.ps (x0, x1, ())) (bxAO 0 close.ps (x0, x1, ())) r b :=
  returnsO_of_run (cfg := close.cfg ) (cfgOK_of mixed tab_ok hs ho) rfl Try.func11 (body_some (by kernel_rfl)) (Nat.le_of_ble_eq_true (by kernel_rfl)) (fun _ _ _ h => oids_mem h) ((close.run_eq  m x0 x1).trans h)
abbrev close.Law : Prop := ∀ (x0 : (El TBook)) (x1 : Int), close.pre (x0, x1, ()) = true → VE.ReturnsO Try.prog 11 (ivAO 0 close.ps (x0, x1, ())) (bxAO 0 close.ps (x0, x1, ())) (close.res (x0, x1, ())) (close.back (x0, x1, ()))
theorem close.mkR (H : ∀ (x0 : (El TBook)) (x1 : Int), close.pre (x0, x1, ()) = true → VE.ReturnsO Try.prog 11 (ivAO 0 close.ps (x0, x1, ())) (bxAO 0 close.ps (x0, x1, ())) (close.res (x0, x1, ())) (close.back (x0, x1, ()))) : SpecOKO Try.prog 11 close.sp :=
  specO_ret Try.func11 (by kernel_rfl) (by kernel_rfl) fun (x : (El TBook) × Int × Unit) hx => H (x.1) (x.2.1) hx
theorem close.mk  (hs : SpecsOK Try.prog (close.specs )) (ho : OSpecsOK Try.prog (close.ospecs )) (H : ∀ (x0 : (El TBook)) (x1 : Int), close.pre (x0, x1, ()) = true → ∃ m, close.go  m x0 x1 = some (close.res (x0, x1, ()), close.back (x0, x1, ()))) : SpecOKO Try.prog 11 close.sp :=
  close.mkR fun x0 x1 hx => (H x0 x1 hx).elim fun _ hm => close.ret  hs ho x0 x1 hm

/-! ### (*triage/ticket.Book).Of -/
abbrev of.ps : List AK := [.o 52 TBook [none, some 54], .d false (.int .i64)]
def of.pre : ElA of.ps → Bool := fun (x : (El TBook) × Int × Unit) => fits TBook (x.1) && (fits (.int .i64) (x.2.1) && (true))
def of.rv : ElA of.ps → List RV := fun (x : (El TBook) × Int × Unit) => [.d ((fun b i => vi .i64 (closeI b i)) x.1 x.2.1), .d ((fun b i => vb (hasId b i)) x.1 x.2.1)]
def of.res : ElA of.ps → IV := fun x => oneOrTup (rvIVs 0 (of.rv x))
def of.back : ElA of.ps → List (Nat × Box) := fun (x : (El TBook) × Int × Unit) => rvBxs 0 (of.rv x) ++ objBx 0 52 TBook [none, some 54] ((fun b i => b) x.1 x.2.1)
def of.sp : OSpec := spO of.ps of.pre of.res of.back
abbrev of.OK : Prop := SpecOKO Try.prog 13 of.sp
noncomputable def of.body : Code := bodyOf Try.f13
noncomputable def of.rs : List ResultVar := Try.f13.results.toList
def of.live : List (Nat × Live) := []
noncomputable def of.specs  : List (Nat × (List Bool × ISpec)) := [(23, ([], find.sp))]
noncomputable def of.ospecs  : List (Nat × OS) := []
noncomputable def of.cfg  : Cfg := ⟨lkp tab, lkp (of.specs ), lkp of.live, ⟨lkp (of.ospecs ), oids 0 of.ps, some ([.plain, .plain], [(oid 0, [.plain, .arr 54 TKey])]), false⟩⟩
noncomputable def of.go  (m : Nat) (x0 : (El TBook)) (x1 : Int) : R := run (of.cfg ) 20 of.rs m [.code of.body] (enterO (ivAO 0 of.ps (x0, x1, ())) (bxAO 0 of.ps (x0, x1, ())))
theorem of.start  (m : Nat) (x0 : (El TBook)) (x1 : Int) : of.go  (m + 1) x0 x1 =
  test (find.pre (x0, (x1, Unit.unit))) (
   cond (decide ((ixOf (keyA x1) x0.2) < (0 : Int))) (
    some ((.tup [(.c (.v (.int .i64 (0 : Int)))), (.c (.v (.bool false)))]), [(102526, (.cells 52 [(.v (.int .i64 x0.1)), (.sref 13251330)])), (13251330, (.arr 54 TKey x0.2 false))])) (
    test (decide ((0 : Int) ≤ (ixOf (keyA x1) x0.2))) (
     test (decide ((ixOf (keyA x1) x0.2) < ((List.length x0.2) : Int))) (
      some ((.tup [(.c (.v (.int .i64 ((rdEl TKey x0.2 (Int.toNat (ixOf (keyA x1) x0.2)))).2))), (.c (.v (.bool true)))]), [(102526, (.cells 52 [(.v (.int .i64 x0.1)), (.sref 13251330)])), (13251330, (.arr 54 TKey x0.2 false))]))))) := by kernel_rfl
theorem of.run_eq  (m : Nat) (x0 : (El TBook)) (x1 : Int) : run (of.cfg ) Try.f13.ntmps Try.f13.results.toList m [.code (bodyOf Try.f13)] (enterO (ivAO 0 of.ps (x0, x1, ())) (bxAO 0 of.ps (x0, x1, ()))) = of.go  m x0 x1 := by kernel_rfl
theorem of.ret  (hs : SpecsOK Try.prog (of.specs ))  (x0 : (El TBook)) (x1 : Int) {m : Nat} {r : IV} {b : List (Nat × Box)} (h : of.go  m x0 x1 = some (r, b)) : VE.ReturnsO Try.prog 13 (ivAO 0 of.ps (x0, x1, ())) (bxAO 0 of.ps (x0, x1, ())) r b :=
  returnsO_of_run (cfg := of.cfg ) (cfgOK_of mixed tab_ok hs .nil) rfl Try.func13 (body_some (by kernel_rfl)) (Nat.le_of_ble_eq_true (by kernel_rfl)) (fun _ _ _ h => oids_mem h) ((of.run_eq  m x0 x1).trans h)
abbrev of.Law : Prop := ∀ (x0 : (El TBook)) (x1 : Int), of.pre (x0, x1, ()) = true → VE.ReturnsO Try.prog 13 (ivAO 0 of.ps (x0, x1, ())) (bxAO 0 of.ps (x0, x1, ())) (of.res (x0, x1, ())) (of.back (x0, x1, ()))
theorem of.mkR (H : ∀ (x0 : (El TBook)) (x1 : Int), of.pre (x0, x1, ()) = true → VE.ReturnsO Try.prog 13 (ivAO 0 of.ps (x0, x1, ())) (bxAO 0 of.ps (x0, x1, ())) (of.res (x0, x1, ())) (of.back (x0, x1, ()))) : SpecOKO Try.prog 13 of.sp :=
  specO_ret Try.func13 (by kernel_rfl) (by kernel_rfl) fun (x : (El TBook) × Int × Unit) hx => H (x.1) (x.2.1) hx
theorem of.mk  (hs : SpecsOK Try.prog (of.specs ))  (H : ∀ (x0 : (El TBook)) (x1 : Int), of.pre (x0, x1, ()) = true → ∃ m, of.go  m x0 x1 = some (of.res (x0, x1, ()), of.back (x0, x1, ()))) : SpecOKO Try.prog 13 of.sp :=
  of.mkR fun x0 x1 hx => (H x0 x1 hx).elim fun _ hm => of.ret  hs  x0 x1 hm

/-! ### (*triage/ticket.Book).All -/
abbrev all.ps : List AK := [.o 52 TBook [none, some 54]]
def all.pre : ElA all.ps → Bool := fun (x : (El TBook) × Unit) => fits TBook (x.1) && (true)
def all.rv : ElA all.ps → List RV := fun (x : (El TBook) × Unit) => [.d ((fun b => .c (.sl TKey b.2)) x.1)]
def all.res : ElA all.ps → IV := fun x => oneOrTup (rvIVs 0 (all.rv x))
def all.back : ElA all.ps → List (Nat × Box) := fun (x : (El TBook) × Unit) => rvBxs 0 (all.rv x) ++ objBx 0 52 TBook [none, some 54] ((fun b => b) x.1)
def all.sp : OSpec := spO all.ps all.pre all.res all.back
abbrev all.OK : Prop := SpecOKO Try.prog 12 all.sp
noncomputable def all.body : Code := bodyOf Try.f12
noncomputable def all.rs : List ResultVar := Try.f12.results.toList
def all.live : List (Nat × Live) := [(5, ⟨[(3, .arr 35 TKey), (11, .plain), (12, .plain), (13, .plain)], [(oid 0, [.plain, .arr 54 TKey])]⟩)]
noncomputable def all.specs  : List (Nat × (List Bool × ISpec)) := []
noncomputable def all.ospecs  : List (Nat × OS) := []
noncomputable def all.cfg  : Cfg := ⟨lkp tab, lkp (all.specs ), lkp all.live, ⟨lkp (all.ospecs ), oids 0 all.ps, some ([.sl TKey], [(oid 0, [.plain, .arr 54 TKey])]), false⟩⟩
noncomputable def all.l1  (m : Nat) (x0 : Int) (x1 : Int) (x2 : List (El TKey)) (x3 : Int) (x4 : List (El TKey)) : R := run (all.cfg ) 27 all.rs m ((todoR 5 all.body []).getD []) ⟨ofList (.c .junk) [(3, (.c (.sref 510))), (11, (.c (.sref 13251330))), (12, (.c (.v (.int .i64 x0)))), (13, (.c (.v (.int .i64 x1))))], ofList none [(510, some (.arr 35 TKey x2 false)), (102526, some (.cells 52 [(.v (.int .i64 x3)), (.sref 13251330)])), (13251330, some (.arr 54 TKey x4 false))], ofList false [(510, true), (102526, true), (13251330, true)]⟩
noncomputable def all.go  (m : Nat) (x0 : (El TBook)) : R := run (all.cfg ) 27 all.rs m [.code all.body] (enterO (ivAO 0 all.ps (x0, ())) (bxAO 0 all.ps (x0, ())))
theorem all.start  (m : Nat) (x0 : (El TBook)) : all.go  (m + 1) x0 =
  all.l1  m ((List.length x0.2) : Int) (0 : Int) ([] : List (El TKey)) x0.1 x0.2 := by kernel_rfl
theorem all.s1  (m : Nat) (x0 : Int) (x1 : Int) (x2 : List (El TKey)) (x3 : Int) (x4 : List (El TKey)) : all.l1  (m + 1) x0 x1 x2 x3 x4 =
  cond (decide (x1 < x0)) (
   test (decide ((0 : Int) ≤ x1)) (
    test (decide (x1 < ((List.length x4) : Int))) (
     test (decide (((List.length x2) + (List.length (((rdEl TKey x4 (Int.toNat x1))) :: ([] : List (El TKey))))) ≤ (lim 16))) (
      all.l1  m x0 (IntKind.i64.wrap (x1 + (1 : Int))) (x2 ++ (((rdEl TKey x4 (Int.toNat x1))) :: ([] : List (El TKey)))) x3 x4)))) (
   some ((.c (.sl TKey x2)), [(102526, (.cells 52 [(.v (.int .i64 x3)), (.sref 13251330)])), (13251330, (.arr 54 TKey x4 false))])) := by kernel_rfl
theorem all.run_eq  (m : Nat) (x0 : (El TBook)) : run (all.cfg ) Try.f12.ntmps Try.f12.results.toList m [.code (bodyOf Try.f12)] (enterO (ivAO 0 all.ps (x0, ())) (bxAO 0 all.ps (x0, ()))) = all.go  m x0 := by kernel_rfl
theorem all.ret  (hs : SpecsOK Try.prog (all.specs ))  (x0 : (El TBook)) {m : Nat} {r : IV} {b : List (Nat × Box)} (h : all.go  m x0 = some (r, b)) : VE.ReturnsO Try.prog 12 (ivAO 0 all.ps (x0, ())) (bxAO 0 all.ps (x0, ())) r b :=
  returnsO_of_run (cfg := all.cfg ) (cfgOK_of mixed tab_ok hs .nil) rfl Try.func12 (body_some (by kernel_rfl)) (Nat.le_of_ble_eq_true (by kernel_rfl)) (fun _ _ _ h => oids_mem h) ((all.run_eq  m x0).trans h)
abbrev all.Law : Prop := ∀ (x0 : (El TBook)), all.pre (x0, ()) = true → VE.ReturnsO Try.prog 12 (ivAO 0 all.ps (x0, ())) (bxAO 0 all.ps (x0, ())) (all.res (x0, ())) (all.back (x0, ()))
theorem all.mkR (H : ∀ (x0 : (El TBook)), all.pre (x0, ()) = true → VE.ReturnsO Try.prog 12 (ivAO 0 all.ps (x0, ())) (bxAO 0 all.ps (x0, ())) (all.res (x0, ())) (all.back (x0, ()))) : SpecOKO Try.prog 12 all.sp :=
  specO_ret Try.func12 (by kernel_rfl) (by kernel_rfl) fun (x : (El TBook) × Unit) hx => H (x.1) hx
theorem all.mk  (hs : SpecsOK Try.prog (all.specs ))  (H : ∀ (x0 : (El TBook)), all.pre (x0, ()) = true → ∃ m, all.go  m x0 = some (all.res (x0, ()), all.back (x0, ()))) : SpecOKO Try.prog 12 all.sp :=
  all.mkR fun x0 hx => (H x0 hx).elim fun _ hm => all.ret  hs  x0 hm

/-! ### (*triage/ticket.Book).Count -/
abbrev count.ps : List AK := [.o 52 TBook [none, some 54], .d false (.int .i64)]
def count.pre : ElA count.ps → Bool := fun (x : (El TBook) × Int × Unit) => fits TBook (x.1) && (fits (.int .i64) (x.2.1) && (true))
def count.rv : ElA count.ps → List RV := fun (x : (El TBook) × Int × Unit) => [.d ((fun b h => vi .i64 (countI b h)) x.1 x.2.1)]
def count.res : ElA count.ps → IV := fun x => oneOrTup (rvIVs 0 (count.rv x))
def count.back : ElA count.ps → List (Nat × Box) := fun (x : (El TBook) × Int × Unit) => rvBxs 0 (count.rv x) ++ objBx 0 52 TBook [none, some 54] ((fun b h => b) x.1 x.2.1)
def count.sp : OSpec := spO count.ps count.pre count.res count.back
abbrev count.OK : Prop := SpecOKO Try.prog 16 count.sp
noncomputable def count.body : Code := bodyOf Try.f16
noncomputable def count.rs : List ResultVar := Try.f16.results.toList
def count.live : List (Nat × Live) := [(3, ⟨[(1, .plain), (5, .plain), (9, .sl TKey), (10, .plain), (11, .plain)], [(oid 0, [.plain, .arr 54 TKey])]⟩)]
noncomputable def count.specs  : List (Nat × (List Bool × ISpec)) := []
noncomputable def count.ospecs  : List (Nat × OS) := [(12, ⟨[some (.obj [.plain, .arr 54 TKey])], [], all.sp⟩)]
noncomputable def count.cfg  : Cfg := ⟨lkp tab, lkp (count.specs ), lkp count.live, ⟨lkp (count.ospecs ), oids 0 count.ps, some ([.plain], [(oid 0, [.plain, .arr 54 TKey])]), false⟩⟩
noncomputable def count.l1  (m : Nat) (x0 : Int) (x1 : Int) (x2 : List (El TKey)) (x3 : Int) (x4 : Int) (x5 : Int) (x6 : List (El TKey)) : R := run (count.cfg ) 23 count.rs m ((todoR 3 count.body []).getD []) ⟨ofList (.c .junk) [(1, (.c (.v (.int .i64 x0)))), (5, (.c (.v (.int .i64 x1)))), (9, (.c (.sl TKey x2))), (10, (.c (.v (.int .i64 x3)))), (11, (.c (.v (.int .i64 x4))))], ofList none [(102526, some (.cells 52 [(.v (.int .i64 x5)), (.sref 13251330)])), (13251330, some (.arr 54 TKey x6 false))], ofList false [(102526, true), (13251330, true)]⟩
noncomputable def count.go  (m : Nat) (x0 : (El TBook)) (x1 : Int) : R := run (count.cfg ) 23 count.rs m [.code count.body] (enterO (ivAO 0 count.ps (x0, x1, ())) (bxAO 0 count.ps (x0, x1, ())))
theorem count.start  (m : Nat) (x0 : (El TBook)) (x1 : Int) : count.go  (m + 1) x0 x1 =
  test (all.pre (x0, Unit.unit)) (
   count.l1  m x1 (0 : Int) x0.2 ((List.length x0.2) : Int) (0 : Int) x0.1 x0.2) := by kernel_rfl
theorem count.s1  (m : Nat) (x0 : Int) (x1 : Int) (x2 : List (El TKey)) (x3 : Int) (x4 : Int) (x5 : Int) (x6 : List (El TKey)) : count.l1  (m + 1) x0 x1 x2 x3 x4 x5 x6 =
  cond (decide (x4 < x3)) (
   test (decide ((0 : Int) ≤ x4)) (
    test (decide (x4 < ((List.length x2) : Int))) (
     cond (((rdEl TKey x2 (Int.toNat x4))).2 == x0) (
      count.l1  m x0 (IntKind.i64.wrap (x1 + (1 : Int))) x2 x3 (IntKind.i64.wrap (x4 + (1 : Int))) x5 x6) (
      count.l1  m x0 x1 x2 x3 (IntKind.i64.wrap (x4 + (1 : Int))) x5 x6)))) (
   some ((.c (.v (.int .i64 x1))), [(102526, (.cells 52 [(.v (.int .i64 x5)), (.sref 13251330)])), (13251330, (.arr 54 TKey x6 false))])) := by kernel_rfl
theorem count.run_eq  (m : Nat) (x0 : (El TBook)) (x1 : Int) : run (count.cfg ) Try.f16.ntmps Try.f16.results.toList m [.code (bodyOf Try.f16)] (enterO (ivAO 0 count.ps (x0, x1, ())) (bxAO 0 count.ps (x0, x1, ()))) = count.go  m x0 x1 := by kernel_rfl
theorem count.ret  (hs : SpecsOK Try.prog (count.specs )) (ho : OSpecsOK Try.prog (count.ospecs )) (x0 : (El TBook)) (x1 : Int) {m : Nat} {r : IV} {b : List (Nat × Box)} (h : count.go  m x0 x1 = some (r, b)) : VE.ReturnsO Try.prog 16 (ivAO 0 count.ps (x0, x1, ())) (bxAO 0 count.ps (x0, x1, ())) r b :=
  returnsO_of_run (cfg := count.cfg ) (cfgOK_of mixed tab_ok hs ho) rfl Try.func16 (body_some (by kernel_rfl)) (Nat.le_of_ble_eq_true (by kernel_rfl)) (fun _ _ _ h => oids_mem h) ((count.run_eq  m x0 x1).trans h)
abbrev count.Law : Prop := ∀ (x0 : (El TBook)) (x1 : Int), count.pre (x0, x1, ()) = true → VE.ReturnsO Try.prog 16 (ivAO 0 count.ps (x0, x1, ())) (bxAO 0 count.ps (x0, x1, ())) (count.res (x0, x1, ())) (count.back (x0, x1, ()))
theorem count.mkR (H : ∀ (x0 : (El TBook)) (x1 : Int), count.pre (x0, x1, ()) = true → VE.ReturnsO Try.prog 16 (ivAO 0 count.ps (x0, x1, ())) (bxAO 0 count.ps (x0, x1, ())) (count.res (x0, x1, ())) (count.back (x0, x1, ()))) : SpecOKO Try.prog 16 count.sp :=
  specO_ret Try.func16 (by kernel_rfl) (by kernel_rfl) fun (x : (El TBook) × Int × Unit) hx => H (x.1) (x.2.1) hx
theorem count.mk  (hs : SpecsOK Try.prog (count.specs )) (ho : OSpecsOK Try.prog (count.ospecs )) (H : ∀ (x0 : (El TBook)) (x1 : Int), count.pre (x0, x1, ()) = true → ∃ m, count.go  m x0 x1 = some (count.res (x0, x1, ()), count.back (x0, x1, ()))) : SpecOKO Try.prog 16 count.sp :=
  count.mkR fun x0 x1 hx => (H x0 x1 hx).elim fun _ hm => count.ret  hs ho x0 x1 hm

/-! ### (*triage/ticket.Book).Len -/
abbrev len.ps : List AK := [.o 52 TBook [none, some 54]]
def len.pre : ElA len.ps → Bool := fun (x : (El TBook) × Unit) => fits TBook (x.1) && (true)
def len.rv : ElA len.ps → List RV := fun (x : (El TBook) × Unit) => [.d ((fun b => vi .i64 (List.length b.2)) x.1)]
def len.res : ElA len.ps → IV := fun x => oneOrTup (rvIVs 0 (len.rv x))
def len.back : ElA len.ps → List (Nat × Box) := fun (x : (El TBook) × Unit) => rvBxs 0 (len.rv x) ++ objBx 0 52 TBook [none, some 54] ((fun b => b) x.1)
def len.sp : OSpec := spO len.ps len.pre len.res len.back
abbrev len.OK : Prop := SpecOKO Try.prog 14 len.sp
noncomputable def len.body : Code := bodyOf Try.f14
noncomputable def len.rs : List ResultVar := Try.f14.results.toList
def len.live : List (Nat × Live) := []
noncomputable def len.specs  : List (Nat × (List Bool × ISpec)) := []
noncomputable def len.ospecs  : List (Nat × OS) := [(12, ⟨[some (.obj [.plain, .arr 54 TKey])], [], all.sp⟩)]
noncomputable def len.cfg  : Cfg := ⟨lkp tab, lkp (len.specs ), lkp len.live, ⟨lkp (len.ospecs ), oids 0 len.ps, some ([.plain], [(oid 0, [.plain, .arr 54 TKey])]), false⟩⟩
noncomputable def len.go  (m : Nat) (x0 : (El TBook)) : R := run (len.cfg ) 6 len.rs m [.code len.body] (enterO (ivAO 0 len.ps (x0, ())) (bxAO 0 len.ps (x0, ())))
theorem len.start  (m : Nat) (x0 : (El TBook)) : len.go  (m + 1) x0 =
  test (all.pre (x0, Unit.unit)) (
   some ((.c (.v (.int .i64 ((List.length x0.2) : Int)))), [(102526, (.cells 52 [(.v (.int .i64 x0.1)), (.sref 13251330)])), (13251330, (.arr 54 TKey x0.2 false))])) := by kernel_rfl
theorem len.run_eq  (m : Nat) (x0 : (El TBook)) : run (len.cfg ) Try.f14.ntmps Try.f14.results.toList m [.code (bodyOf Try.f14)] (enterO (ivAO 0 len.ps (x0, ())) (bxAO 0 len.ps (x0, ()))) = len.go  m x0 := by kernel_rfl
theorem len.ret  (hs : SpecsOK Try.prog (len.specs )) (ho : OSpecsOK Try.prog (len.ospecs )) (x0 : (El TBook)) {m : Nat} {r : IV} {b : List (Nat × Box)} (h : len.go  m x0 = some (r, b)) : VE.ReturnsO Try.prog 14 (ivAO 0 len.ps (x0, ())) (bxAO 0 len.ps (x0, ())) r b :=
  returnsO_of_run (cfg := len.cfg ) (cfgOK_of mixed tab_ok hs ho) rfl Try.func14 (body_some (by kernel_rfl)) (Nat.le_of_ble_eq_true (by kernel_rfl)) (fun _ _ _ h => oids_mem h) ((len.run_eq  m x0).trans h)
abbrev len.Law : Prop := ∀ (x0 : (El TBook)), len.pre (x0, ()) = true → VE.ReturnsO Try.prog 14 (ivAO 0 len.ps (x0, ())) (bxAO 0 len.ps (x0, ())) (len.res (x0, ())) (len.back (x0, ()))
theorem len.mkR (H : ∀ (x0 : (El TBook)), len.pre (x0, ()) = true → VE.ReturnsO Try.prog 14 (ivAO 0 len.ps (x0, ())) (bxAO 0 len.ps (x0, ())) (len.res (x0, ())) (len.back (x0, ()))) : SpecOKO Try.prog 14 len.sp :=
  specO_ret Try.func14 (by kernel_rfl) (by kernel_rfl) fun (x : (El TBook) × Unit) hx => H (x.1) hx
theorem len.mk  (hs : SpecsOK Try.prog (len.specs )) (ho : OSpecsOK Try.prog (len.ospecs )) (H : ∀ (x0 : (El TBook)), len.pre (x0, ()) = true → ∃ m, len.go  m x0 = some (len.res (x0, ()), len.back (x0, ()))) : SpecOKO Try.prog 14 len.sp :=
  len.mkR fun x0 hx => (H x0 hx).elim fun _ hm => len.ret  hs ho x0 hm

/-! ### (*triage/ticket.Book).Drop -/
abbrev drop.ps : List AK := [.o 52 TBook [none, some 54], .d false (.int .i64)]
def drop.pre : ElA drop.ps → Bool := fun (x : (El TBook) × Int × Unit) => fits TBook (x.1) && (fits (.int .i64) (x.2.1) && (true))
def drop.rv : ElA drop.ps → List RV := fun (x : (El TBook) × Int × Unit) => [.d ((fun b h => vi .i64 (countI b h)) x.1 x.2.1)]
def drop.res : ElA drop.ps → IV := fun x => oneOrTup (rvIVs 0 (drop.rv x))
def drop.back : ElA drop.ps → List (Nat × Box) := fun (x : (El TBook) × Int × Unit) => rvBxs 0 (drop.rv x) ++ objBx 0 52 TBook [none, some 54] ((fun b h => dropB b h) x.1 x.2.1)
def drop.sp : OSpec := spO drop.ps drop.pre drop.res drop.back
abbrev drop.OK : Prop := SpecOKO Try.prog 15 drop.sp
noncomputable def drop.body : Code := bodyOf Try.f15
noncomputable def drop.rs : List ResultVar := Try.f15.results.toList
def drop.live : List (Nat × Live) := []
noncomputable def drop.specs  : List (Nat × (List Bool × ISpec)) := []
noncomputable def drop.ospecs  : List (Nat × OS) := [(16, ⟨[some (.obj [.plain, .arr 54 TKey])], [], count.sp⟩), (25, ⟨[some (.arr 54 TKey)], [], delHost.sp⟩)]
noncomputable def drop.cfg  : Cfg := ⟨lkp tab, lkp (drop.specs ), lkp drop.live, ⟨lkp (drop.ospecs ), oids 0 drop.ps, some ([.plain], [(oid 0, [.plain, .arr 54 TKey])]), false⟩⟩
noncomputable def drop.go  (m : Nat) (x0 : (El TBook)) (x1 : Int) : R := run (drop.cfg ) 21 drop.rs m [.code drop.body] (enterO (ivAO 0 drop.ps (x0, x1, ())) (bxAO 0 drop.ps (x0, x1, ())))
theorem drop.start  (m : Nat) (x0 : (El TBook)) (x1 : Int) : drop.go  (m + 1) x0 x1 =
  test (count.pre (x0, (x1, Unit.unit))) (
   cond (decide ((countI x0 x1) > (0 : Int))) (
    test (delHost.pre (x0.2, ((x1, Unit.unit), Unit.unit))) (
     some ((.c (.v (.int .i64 (countI x0 x1)))), [(102526, (.cells 52 [(.v (.int .i64 x0.1)), (.sref 13251330)])), (13251330, (.arr 54 TKey (dropL x1 x0.2) false))]))) (
    some ((.c (.v (.int .i64 (countI x0 x1)))), [(102526, (.cells 52 [(.v (.int .i64 x0.1)), (.sref 13251330)])), (13251330, (.arr 54 TKey x0.2 false))]))) := by kernel_rfl
theorem drop.run_eq  (m : Nat) (x0 : (El TBook)) (x1 : Int) : run (drop.cfg ) Try.f15.ntmps Try.f15.results.toList m [.code (bodyOf Try.f15)] (enterO (ivAO 0 drop.ps (x0, x1, ())) (bxAO 0 drop.ps (x0, x1, ()))) = drop.go  m x0 x1 := by kernel_rfl
theorem drop.ret  (hs : SpecsOK Try.prog (drop.specs )) (ho : OSpecsOK Try.prog (drop.ospecs )) (x0 : (El TBook)) (x1 : Int) {m : Nat} {r : IV} {b : List (Nat × Box)} (h : drop.go  m x0 x1 = some (r, b)) : VE.ReturnsO Try.prog 15 (ivAO 0 drop.ps (x0, x1, ())) (bxAO 0 drop.ps (x0, x1, ())) r b :=
  returnsO_of_run (cfg := drop.cfg ) (cfgOK_of mixed tab_ok hs ho) rfl Try.func15 (body_some (by kernel_rfl)) (Nat.le_of_ble_eq_true (by kernel_rfl)) (fun _ _ _ h => oids_mem h) ((drop.run_eq  m x0 x1).trans h)
abbrev drop.Law : Prop := ∀ (x0 : (El TBook)) (x1 : Int), drop.pre (x0, x1, ()) = true → VE.ReturnsO Try.prog 15 (ivAO 0 drop.ps (x0, x1, ())) (bxAO 0 drop.ps (x0, x1, ())) (drop.res (x0, x1, ())) (drop.back (x0, x1, ()))
theorem drop.mkR (H : ∀ (x0 : (El TBook)) (x1 : Int), drop.pre (x0, x1, ()) = true → VE.ReturnsO Try.prog 15 (ivAO 0 drop.ps (x0, x1, ())) (bxAO 0 drop.ps (x0, x1, ())) (drop.res (x0, x1, ())) (drop.back (x0, x1, ()))) : SpecOKO Try.prog 15 drop.sp :=
  specO_ret Try.func15 (by kernel_rfl) (by kernel_rfl) fun (x : (El TBook) × Int × Unit) hx => H (x.1) (x.2.1) hx
theorem drop.mk  (hs : SpecsOK Try.prog (drop.specs )) (ho : OSpecsOK Try.prog (drop.ospecs )) (H : ∀ (x0 : (El TBook)) (x1 : Int), drop.pre (x0, x1, ()) = true → ∃ m, drop.go  m x0 x1 = some (drop.res (x0, x1, ()), drop.back (x0, x1, ()))) : SpecOKO Try.prog 15 drop.sp :=
  drop.mkR fun x0 x1 hx => (H x0 x1 hx).elim fun _ hm => drop.ret  hs ho x0 x1 hm

/-! ### (*triage/ticket.Book).Open -/
abbrev openZ.ps : List AK := [.z, .d false (.int .i64)]
def openZ.pre : ElA openZ.ps → Bool := fun (x : Int × Unit) => fits (.int .i64) (x.1) && (true)
def openZ.rv : ElA openZ.ps → List RV := fun (x : Int × Unit) => [.d ((fun h => vi .i64 0) x.1), .d ((fun h => vi .i64 1) x.1)]
def openZ.res : ElA openZ.ps → IV := fun x => oneOrTup (rvIVs 0 (openZ.rv x))
def openZ.back : ElA openZ.ps → List (Nat × Box) := fun (x : Int × Unit) => rvBxs 0 (openZ.rv x)
def openZ.sp : OSpec := spO openZ.ps openZ.pre openZ.res openZ.back
abbrev openZ.OK : Prop := SpecOKO Try.prog 10 openZ.sp
noncomputable def openZ.body : Code := bodyOf Try.f10
noncomputable def openZ.rs : List ResultVar := Try.f10.results.toList
def openZ.live : List (Nat × Live) := []
noncomputable def openZ.specs  : List (Nat × (List Bool × ISpec)) := []
noncomputable def openZ.ospecs  : List (Nat × OS) := []
noncomputable def openZ.cfg  : Cfg := ⟨lkp tab, lkp (openZ.specs ), lkp openZ.live, ⟨lkp (openZ.ospecs ), oids 0 openZ.ps, some ([.plain, .plain], []), false⟩⟩
noncomputable def openZ.go  (m : Nat) (x0 : Int) : R := run (openZ.cfg ) 40 openZ.rs m [.code openZ.body] (enterO (ivAO 0 openZ.ps (x0, ())) (bxAO 0 openZ.ps (x0, ())))
theorem openZ.start  (m : Nat) (x0 : Int) : openZ.go  (m + 1) x0 =
  some ((.tup [(.c (.v (.int .i64 (0 : Int)))), (.c (.v (.int .i64 (1 : Int))))]), []) := by kernel_rfl
theorem openZ.run_eq  (m : Nat) (x0 : Int) : run (openZ.cfg ) Try.f10.ntmps Try.f10.results.toList m [.code (bodyOf Try.f10)] (enterO (ivAO 0 openZ.ps (x0, ())) (bxAO 0 openZ.ps (x0, ()))) = openZ.go  m x0 := by kernel_rfl
theorem openZ.ret  (hs : SpecsOK Try.prog (openZ.specs ))  (x0 : Int) {m : Nat} {r : IV} {b : List (Nat × Box)} (h : openZ.go  m x0 = some (r, b)) : VE.ReturnsO Try.prog 10 (ivAO 0 openZ.ps (x0, ())) (bxAO 0 openZ.ps (x0, ())) r b :=
  returnsO_of_run (cfg := openZ.cfg ) (cfgOK_of mixed tab_ok hs .nil) rfl Try.func10 (body_some (by kernel_rfl)) (Nat.le_of_ble_eq_true (by kernel_rfl)) (fun _ _ _ h => oids_mem h) ((openZ.run_eq  m x0).trans h)
abbrev openZ.Law : Prop := ∀ (x0 : Int), openZ.pre (x0, ()) = true → VE.ReturnsO Try.prog 10 (ivAO 0 openZ.ps (x0, ())) (bxAO 0 openZ.ps (x0, ())) (openZ.res (x0, ())) (openZ.back (x0, ()))
theorem openZ.mkR (H : ∀ (x0 : Int), openZ.pre (x0, ()) = true → VE.ReturnsO Try.prog 10 (ivAO 0 openZ.ps (x0, ())) (bxAO 0 openZ.ps (x0, ())) (openZ.res (x0, ())) (openZ.back (x0, ()))) : SpecOKO Try.prog 10 openZ.sp :=
  specO_ret Try.func10 (by kernel_rfl) (by kernel_rfl) fun (x : Int × Unit) hx => H (x.1) hx
theorem openZ.mk  (hs : SpecsOK Try.prog (openZ.specs ))  (H : ∀ (x0 : Int), openZ.pre (x0, ()) = true → ∃ m, openZ.go  m x0 = some (openZ.res (x0, ()), openZ.back (x0, ()))) : SpecOKO Try.prog 10 openZ.sp :=
  openZ.mkR fun x0 hx => (H x0 hx).elim fun _ hm => openZ.ret  hs  x0 hm

/-! ### (*triage/ticket.Book).Close -/
abbrev closeZ.ps : List AK := [.z, .d false (.int .i64)]
def closeZ.pre : ElA closeZ.ps → Bool := fun (x : Int × Unit) => fits (.int .i64) (x.1) && (true)
def closeZ.rv : ElA closeZ.ps → List RV := fun (x : Int × Unit) => [.d ((fun h => vi .i64 0) x.1), .d ((fun h => vi .i64 1) x.1)]
def closeZ.res : ElA closeZ.ps → IV := fun x => oneOrTup (rvIVs 0 (closeZ.rv x))
def closeZ.back : ElA closeZ.ps → List (Nat × Box) := fun (x : Int × Unit) => rvBxs 0 (closeZ.rv x)
def closeZ.sp : OSpec := spO closeZ.ps closeZ.pre closeZ.res closeZ.back
abbrev closeZ.OK : Prop := SpecOKO Try.prog 11 closeZ.sp
noncomputable def closeZ.body : Code := bodyOf Try.f11
noncomputable def closeZ.rs : List ResultVar := Try.f11.results.toList
def closeZ.live : List (Nat × Live) := []
noncomputable def closeZ.specs  : List (Nat × (List Bool × ISpec)) := []
noncomputable def closeZ.ospecs  : List (Nat × OS) := []
noncomputable def closeZ.cfg  : Cfg := ⟨lkp tab, lkp (closeZ.specs ), lkp closeZ.live, ⟨lkp (closeZ.ospecs ), oids 0 closeZ.ps, some ([.plain, .plain], []), false⟩⟩
noncomputable def closeZ.go  (m : Nat) (x0 : Int) : R := run (closeZ.cfg ) 35 closeZ.rs m [.code closeZ.body] (enterO (ivAO 0 closeZ.ps (x0, ())) (bxAO 0 closeZ.ps (x0, ())))
theorem closeZ.start  (m : Nat) (x0 : Int) : closeZ.go  (m + 1) x0 =
  some ((.tup [(.c (.v (.int .i64 (0 : Int)))), (.c (.v (.int .i64 (1 : Int))))]), []) := by kernel_rfl
theorem closeZ.run_eq  (m : Nat) (x0 : Int) : run (closeZ.cfg ) Try.f11.ntmps Try.f11.results.toList m [.code (bodyOf Try.f11)] (enterO (ivAO 0 closeZ.ps (x0, ())) (bxAO 0 closeZ.ps (x0, ()))) = closeZ.go  m x0 := by kernel_rfl
theorem closeZ.ret  (hs : SpecsOK Try.prog (closeZ.specs ))  (x0 : Int) {m : Nat} {r : IV} {b : List (Nat × Box)} (h : closeZ.go  m x0 = some (r, b)) : VE.ReturnsO Try.prog 11 (ivAO 0 closeZ.ps (x0, ())) (bxAO 0 closeZ.ps (x0, ())) r b :=
  returnsO_of_run (cfg := closeZ.cfg ) (cfgOK_of mixed tab_ok hs .nil) rfl Try.func11 (body_some (by kernel_rfl)) (Nat.le_of_ble_eq_true (by kernel_rfl)) (fun _ _ _ h => oids_mem h) ((closeZ.run_eq  m x0).trans h)
abbrev closeZ.Law : Prop := ∀ (x0 : Int), closeZ.pre (x0, ()) = true → VE.ReturnsO Try.prog 11 (ivAO 0 closeZ.ps (x0, ())) (bxAO 0 closeZ.ps (x0, ())) (closeZ.res (x0, ())) (closeZ.back (x0, ()))
theorem closeZ.mkR (H : ∀ (x0 : Int), closeZ.pre (x0, ()) = true → VE.ReturnsO Try.prog 11 (ivAO 0 closeZ.ps (x0, ())) (bxAO 0 closeZ.ps (x0, ())) (closeZ.res (x0, ())) (closeZ.back (x0, ()))) : SpecOKO Try.prog 11 closeZ.sp :=
  specO_ret Try.func11 (by kernel_rfl) (by kernel_rfl) fun (x : Int × Unit) hx => H (x.1) hx
theorem closeZ.mk  (hs : SpecsOK Try.prog (closeZ.specs ))  (H : ∀ (x0 : Int), closeZ.pre (x0, ()) = true → ∃ m, closeZ.go  m x0 = some (closeZ.res (x0, ()), closeZ.back (x0, ()))) : SpecOKO Try.prog 11 closeZ.sp :=
  closeZ.mkR fun x0 hx => (H x0 hx).elim fun _ hm => closeZ.ret  hs  x0 hm

/-! ### (*triage/ticket.Book).All -/
abbrev allZ.ps : List AK := [.z]
def allZ.pre : ElA allZ.ps → Bool := fun (x : Unit) => true
def allZ.rv : ElA allZ.ps → List RV := fun (x : Unit) => [.d ((.c (.sl TKey [])) )]
def allZ.res : ElA allZ.ps → IV := fun x => oneOrTup (rvIVs 0 (allZ.rv x))
def allZ.back : ElA allZ.ps → List (Nat × Box) := fun (x : Unit) => rvBxs 0 (allZ.rv x)
def allZ.sp : OSpec := spO allZ.ps allZ.pre allZ.res allZ.back
abbrev allZ.OK : Prop := SpecOKO Try.prog 12 allZ.sp
noncomputable def allZ.body : Code := bodyOf Try.f12
noncomputable def allZ.rs : List ResultVar := Try.f12.results.toList
def allZ.live : List (Nat × Live) := [(5, ⟨[(3, .arr 35 TKey), (11, .sl TKey), (12, .plain), (13, .plain)], []⟩)]
noncomputable def allZ.specs  : List (Nat × (List Bool × ISpec)) := []
noncomputable def allZ.ospecs  : List (Nat × OS) := []
noncomputable def allZ.cfg  : Cfg := ⟨lkp tab, lkp (allZ.specs ), lkp allZ.live, ⟨lkp (allZ.ospecs ), oids 0 allZ.ps, some ([.sl TKey], []), false⟩⟩
noncomputable def allZ.go  (m : Nat)  : R := run (allZ.cfg ) 27 allZ.rs m [.code allZ.body] (enterO (ivAO 0 allZ.ps ()) (bxAO 0 allZ.ps ()))
theorem allZ.start  (m : Nat)  : allZ.go  (m + 1)  =
  some ((.c (.sl TKey ([] : List (El TKey)))), []) := by kernel_rfl
theorem allZ.run_eq  (m : Nat)  : run (allZ.cfg ) Try.f12.ntmps Try.f12.results.toList m [.code (bodyOf Try.f12)] (enterO (ivAO 0 allZ.ps ()) (bxAO 0 allZ.ps ())) = allZ.go  m  := by kernel_rfl
theorem allZ.ret  (hs : SpecsOK Try.prog (allZ.specs ))   {m : Nat} {r : IV} {b : List (Nat × Box)} (h : allZ.go  m  = some (r, b)) : VE.ReturnsO Try.prog 12 (ivAO 0 allZ.ps ()) (bxAO 0 allZ.ps ()) r b :=
  returnsO_of_run (cfg := allZ.cfg ) (cfgOK_of mixed tab_ok hs .nil) rfl Try.func12 (body_some (by kernel_rfl)) (Nat.le_of_ble_eq_true (by kernel_rfl)) (fun _ _ _ h => oids_mem h) ((allZ.run_eq  m ).trans h)
abbrev allZ.Law : Prop := ∀ (_ : Unit), allZ.pre () = true → VE.ReturnsO Try.prog 12 (ivAO 0 allZ.ps ()) (bxAO 0 allZ.ps ()) (allZ.res ()) (allZ.back ())
theorem allZ.mkR (H : ∀ (_ : Unit), allZ.pre () = true → VE.ReturnsO Try.prog 12 (ivAO 0 allZ.ps ()) (bxAO 0 allZ.ps ()) (allZ.res ()) (allZ.back ())) : SpecOKO Try.prog 12 allZ.sp :=
  specO_ret Try.func12 (by kernel_rfl) (by kernel_rfl) fun (x : Unit) hx => H () hx
theorem allZ.mk  (hs : SpecsOK Try.prog (allZ.specs ))  (H : ∀ (_ : Unit), allZ.pre () = true → ∃ m, allZ.go  m  = some (allZ.res (), allZ.back ())) : SpecOKO Try.prog 12 allZ.sp :=
  allZ.mkR fun _ hx => (H () hx).elim fun _ hm => allZ.ret  hs   hm

/-! ### (*triage/ticket.Book).Of -/
abbrev ofZ.ps : List AK := [.z, .d false (.int .i64)]
def ofZ.pre : ElA ofZ.ps → Bool := fun (x : Int × Unit) => fits (.int .i64) (x.1) && (true)
def ofZ.rv : ElA ofZ.ps → List RV := fun (x : Int × Unit) => [.d ((fun i => vi .i64 0) x.1), .d ((fun i => vb false) x.1)]
def ofZ.res : ElA ofZ.ps → IV := fun x => oneOrTup (rvIVs 0 (ofZ.rv x))
def ofZ.back : ElA ofZ.ps → List (Nat × Box) := fun (x : Int × Unit) => rvBxs 0 (ofZ.rv x)
def ofZ.sp : OSpec := spO ofZ.ps ofZ.pre ofZ.res ofZ.back
abbrev ofZ.OK : Prop := SpecOKO Try.prog 13 ofZ.sp
noncomputable def ofZ.body : Code := bodyOf Try.f13
noncomputable def ofZ.rs : List ResultVar := Try.f13.results.toList
def ofZ.live : List (Nat × Live) := []
noncomputable def ofZ.specs  : List (Nat × (List Bool × ISpec)) := [(23, ([], findZ.sp))]
noncomputable def ofZ.ospecs  : List (Nat × OS) := []
noncomputable def ofZ.cfg  : Cfg := ⟨lkp tab, lkp (ofZ.specs ), lkp ofZ.live, ⟨lkp (ofZ.ospecs ), oids 0 ofZ.ps, some ([.plain, .plain], []), false⟩⟩
noncomputable def ofZ.go  (m : Nat) (x0 : Int) : R := run (ofZ.cfg ) 20 ofZ.rs m [.code ofZ.body] (enterO (ivAO 0 ofZ.ps (x0, ())) (bxAO 0 ofZ.ps (x0, ())))
theorem ofZ.start  (m : Nat) (x0 : Int) : ofZ.go  (m + 1) x0 =
  some ((.tup [(.c (.v (.int .i64 (0 : Int)))), (.c (.v (.bool false)))]), []) := by kernel_rfl
theorem ofZ.run_eq  (m : Nat) (x0 : Int) : run (ofZ.cfg ) Try.f13.ntmps Try.f13.results.toList m [.code (bodyOf Try.f13)] (enterO (ivAO 0 ofZ.ps (x0, ())) (bxAO 0 ofZ.ps (x0, ()))) = ofZ.go  m x0 := by kernel_rfl
theorem ofZ.ret  (hs : SpecsOK Try.prog (ofZ.specs ))  (x0 : Int) {m : Nat} {r : IV} {b : List (Nat × Box)} (h : ofZ.go  m x0 = some (r, b)) : VE.ReturnsO Try.prog 13 (ivAO 0 ofZ.ps (x0, ())) (bxAO 0 ofZ.ps (x0, ())) r b :=
  returnsO_of_run (cfg := ofZ.cfg ) (cfgOK_of mixed tab_ok hs .nil) rfl Try.func13 (body_some (by kernel_rfl)) (Nat.le_of_ble_eq_true (by kernel_rfl)) (fun _ _ _ h => oids_mem h) ((ofZ.run_eq  m x0).trans h)
abbrev ofZ.Law : Prop := ∀ (x0 : Int), ofZ.pre (x0, ()) = true → VE.ReturnsO Try.prog 13 (ivAO 0 ofZ.ps (x0, ())) (bxAO 0 ofZ.ps (x0, ())) (ofZ.res (x0, ())) (ofZ.back (x0, ()))
theorem ofZ.mkR (H : ∀ (x0 : Int), ofZ.pre (x0, ()) = true → VE.ReturnsO Try.prog 13 (ivAO 0 ofZ.ps (x0, ())) (bxAO 0 ofZ.ps (x0, ())) (ofZ.res (x0, ())) (ofZ.back (x0, ()))) : SpecOKO Try.prog 13 ofZ.sp :=
  specO_ret Try.func13 (by kernel_rfl) (by kernel_rfl) fun (x : Int × Unit) hx => H (x.1) hx
theorem ofZ.mk  (hs : SpecsOK Try.prog (ofZ.specs ))  (H : ∀ (x0 : Int), ofZ.pre (x0, ()) = true → ∃ m, ofZ.go  m x0 = some (ofZ.res (x0, ()), ofZ.back (x0, ()))) : SpecOKO Try.prog 13 ofZ.sp :=
  ofZ.mkR fun x0 hx => (H x0 hx).elim fun _ hm => ofZ.ret  hs  x0 hm

/-! ### (*triage/ticket.Book).Count -/
abbrev countZ.ps : List AK := [.z, .d false (.int .i64)]
def countZ.pre : ElA countZ.ps → Bool := fun (x : Int × Unit) => fits (.int .i64) (x.1) && (true)
def countZ.rv : ElA countZ.ps → List RV := fun (x : Int × Unit) => [.d ((fun h => vi .i64 0) x.1)]
def countZ.res : ElA countZ.ps → IV := fun x => oneOrTup (rvIVs 0 (countZ.rv x))
def countZ.back : ElA countZ.ps → List (Nat × Box) := fun (x : Int × Unit) => rvBxs 0 (countZ.rv x)
def countZ.sp : OSpec := spO countZ.ps countZ.pre countZ.res countZ.back
abbrev countZ.OK : Prop := SpecOKO Try.prog 16 countZ.sp
noncomputable def countZ.body : Code := bodyOf Try.f16
noncomputable def countZ.rs : List ResultVar := Try.f16.results.toList
def countZ.live : List (Nat × Live) := [(3, ⟨[(1, .plain), (5, .plain), (9, .sl TKey), (10, .plain), (11, .plain)], []⟩)]
noncomputable def countZ.specs  : List (Nat × (List Bool × ISpec)) := []
noncomputable def countZ.ospecs  : List (Nat × OS) := [(12, ⟨[], [], allZ.sp⟩)]
noncomputable def countZ.cfg  : Cfg := ⟨lkp tab, lkp (countZ.specs ), lkp countZ.live, ⟨lkp (countZ.ospecs ), oids 0 countZ.ps, some ([.plain], []), false⟩⟩
noncomputable def countZ.l1  (m : Nat) (x0 : Int) (x1 : Int) (x2 : List (El TKey)) (x3 : Int) (x4 : Int) : R := run (countZ.cfg ) 23 countZ.rs m ((todoR 3 countZ.body []).getD []) ⟨ofList (.c .junk) [(1, (.c (.v (.int .i64 x0)))), (5, (.c (.v (.int .i64 x1)))), (9, (.c (.sl TKey x2))), (10, (.c (.v (.int .i64 x3)))), (11, (.c (.v (.int .i64 x4))))], ofList none [], ofList false []⟩
noncomputable def countZ.go  (m : Nat) (x0 : Int) : R := run (countZ.cfg ) 23 countZ.rs m [.code countZ.body] (enterO (ivAO 0 countZ.ps (x0, ())) (bxAO 0 countZ.ps (x0, ())))
theorem countZ.start  (m : Nat) (x0 : Int) : countZ.go  (m + 1) x0 =
  countZ.l1  m x0 (0 : Int) ([] : List (El TKey)) ((List.length ([] : List (El TKey))) : Int) (0 : Int) := by kernel_rfl
theorem countZ.s1  (m : Nat) (x0 : Int) (x1 : Int) (x2 : List (El TKey)) (x3 : Int) (x4 : Int) : countZ.l1  (m + 1) x0 x1 x2 x3 x4 =
  cond (decide (x4 < x3)) (
   test (decide ((0 : Int) ≤ x4)) (
    test (decide (x4 < ((List.length x2) : Int))) (
     cond (((rdEl TKey x2 (Int.toNat x4))).2 == x0) (
      countZ.l1  m x0 (IntKind.i64.wrap (x1 + (1 : Int))) x2 x3 (IntKind.i64.wrap (x4 + (1 : Int)))) (
      countZ.l1  m x0 x1 x2 x3 (IntKind.i64.wrap (x4 + (1 : Int))))))) (
   some ((.c (.v (.int .i64 x1))), [])) := by kernel_rfl
theorem countZ.run_eq  (m : Nat) (x0 : Int) : run (countZ.cfg ) Try.f16.ntmps Try.f16.results.toList m [.code (bodyOf Try.f16)] (enterO (ivAO 0 countZ.ps (x0, ())) (bxAO 0 countZ.ps (x0, ()))) = countZ.go  m x0 := by kernel_rfl
theorem countZ.ret  (hs : SpecsOK Try.prog (countZ.specs )) (ho : OSpecsOK Try.prog (countZ.ospecs )) (x0 : Int) {m : Nat} {r : IV} {b : List (Nat × Box)} (h : countZ.go  m x0 = some (r, b)) : VE.ReturnsO Try.prog 16 (ivAO 0 countZ.ps (x0, ())) (bxAO 0 countZ.ps (x0, ())) r b :=
  returnsO_of_run (cfg := countZ.cfg ) (cfgOK_of mixed tab_ok hs ho) rfl Try.func16 (body_some (by kernel_rfl)) (Nat.le_of_ble_eq_true (by kernel_rfl)) (fun _ _ _ h => oids_mem h) ((countZ.run_eq  m x0).trans h)
abbrev countZ.Law : Prop := ∀ (x0 : Int), countZ.pre (x0, ()) = true → VE.ReturnsO Try.prog 16 (ivAO 0 countZ.ps (x0, ())) (bxAO 0 countZ.ps (x0, ())) (countZ.res (x0, ())) (countZ.back (x0, ()))
theorem countZ.mkR (H : ∀ (x0 : Int), countZ.pre (x0, ()) = true → VE.ReturnsO Try.prog 16 (ivAO 0 countZ.ps (x0, ())) (bxAO 0 countZ.ps (x0, ())) (countZ.res (x0, ())) (countZ.back (x0, ()))) : SpecOKO Try.prog 16 countZ.sp :=
  specO_ret Try.func16 (by kernel_rfl) (by kernel_rfl) fun (x : Int × Unit) hx => H (x.1) hx
theorem countZ.mk  (hs : SpecsOK Try.prog (countZ.specs )) (ho : OSpecsOK Try.prog (countZ.ospecs )) (H : ∀ (x0 : Int), countZ.pre (x0, ()) = true → ∃ m, countZ.go  m x0 = some (countZ.res (x0, ()), countZ.back (x0, ()))) : SpecOKO Try.prog 16 countZ.sp :=
  countZ.mkR fun x0 hx => (H x0 hx).elim fun _ hm => countZ.ret  hs ho x0 hm

/-! ### (*triage/ticket.Book).Len -/
abbrev lenZ.ps : List AK := [.z]
def lenZ.pre : ElA lenZ.ps → Bool := fun (x : Unit) => true
def lenZ.rv : ElA lenZ.ps → List RV := fun (x : Unit) => [.d ((vi .i64 0) )]
def lenZ.res : ElA lenZ.ps → IV := fun x => oneOrTup (rvIVs 0 (lenZ.rv x))
def lenZ.back : ElA lenZ.ps → List (Nat × Box) := fun (x : Unit) => rvBxs 0 (lenZ.rv x)
def lenZ.sp : OSpec := spO lenZ.ps lenZ.pre lenZ.res lenZ.back
abbrev lenZ.OK : Prop := SpecOKO Try.prog 14 lenZ.sp
noncomputable def lenZ.body : Code := bodyOf Try.f14
noncomputable def lenZ.rs : List ResultVar := Try.f14.results.toList
def lenZ.live : List (Nat × Live) := []
noncomputable def lenZ.specs  : List (Nat × (List Bool × ISpec)) := []
noncomputable def lenZ.ospecs  : List (Nat × OS) := [(12, ⟨[], [], allZ.sp⟩)]
noncomputable def lenZ.cfg  : Cfg := ⟨lkp tab, lkp (lenZ.specs ), lkp lenZ.live, ⟨lkp (lenZ.ospecs ), oids 0 lenZ.ps, some ([.plain], []), false⟩⟩
noncomputable def lenZ.go  (m : Nat)  : R := run (lenZ.cfg ) 6 lenZ.rs m [.code lenZ.body] (enterO (ivAO 0 lenZ.ps ()) (bxAO 0 lenZ.ps ()))
theorem lenZ.start  (m : Nat)  : lenZ.go  (m + 1)  =
  some ((.c (.v (.int .i64 ((List.length ([] : List (El TKey))) : Int)))), []) := by kernel_rfl
theorem lenZ.run_eq  (m : Nat)  : run (lenZ.cfg ) Try.f14.ntmps Try.f14.results.toList m [.code (bodyOf Try.f14)] (enterO (ivAO 0 lenZ.ps ()) (bxAO 0 lenZ.ps ())) = lenZ.go  m  := by kernel_rfl
theorem lenZ.ret  (hs : SpecsOK Try.prog (lenZ.specs )) (ho : OSpecsOK Try.prog (lenZ.ospecs ))  {m : Nat} {r : IV} {b : List (Nat × Box)} (h : lenZ.go  m  = some (r, b)) : VE.ReturnsO Try.prog 14 (ivAO 0 lenZ.ps ()) (bxAO 0 lenZ.ps ()) r b :=
  returnsO_of_run (cfg := lenZ.cfg ) (cfgOK_of mixed tab_ok hs ho) rfl Try.func14 (body_some (by kernel_rfl)) (Nat.le_of_ble_eq_true (by kernel_rfl)) (fun _ _ _ h => oids_mem h) ((lenZ.run_eq  m ).trans h)
abbrev lenZ.Law : Prop := ∀ (_ : Unit), lenZ.pre () = true → VE.ReturnsO Try.prog 14 (ivAO 0 lenZ.ps ()) (bxAO 0 lenZ.ps ()) (lenZ.res ()) (lenZ.back ())
theorem lenZ.mkR (H : ∀ (_ : Unit), lenZ.pre () = true → VE.ReturnsO Try.prog 14 (ivAO 0 lenZ.ps ()) (bxAO 0 lenZ.ps ()) (lenZ.res ()) (lenZ.back ())) : SpecOKO Try.prog 14 lenZ.sp :=
  specO_ret Try.func14 (by kernel_rfl) (by kernel_rfl) fun (x : Unit) hx => H () hx
theorem lenZ.mk  (hs : SpecsOK Try.prog (lenZ.specs )) (ho : OSpecsOK Try.prog (lenZ.ospecs )) (H : ∀ (_ : Unit), lenZ.pre () = true → ∃ m, lenZ.go  m  = some (lenZ.res (), lenZ.back ())) : SpecOKO Try.prog 14 lenZ.sp :=
  lenZ.mkR fun _ hx => (H () hx).elim fun _ hm => lenZ.ret  hs ho  hm

/-! ### (*triage/ticket.Book).Drop -/
abbrev dropZ.ps : List AK := [.z, .d false (.int .i64)]
def dropZ.pre : ElA dropZ.ps → Bool := fun (x : Int × Unit) => fits (.int .i64) (x.1) && (true)
def dropZ.rv : ElA dropZ.ps → List RV := fun (x : Int × Unit) => [.d ((fun h => vi .i64 0) x.1)]
def dropZ.res : ElA dropZ.ps → IV := fun x => oneOrTup (rvIVs 0 (dropZ.rv x))
def dropZ.back : ElA dropZ.ps → List (Nat × Box) := fun (x : Int × Unit) => rvBxs 0 (dropZ.rv x)
def dropZ.sp : OSpec := spO dropZ.ps dropZ.pre dropZ.res dropZ.back
abbrev dropZ.OK : Prop := SpecOKO Try.prog 15 dropZ.sp
noncomputable def dropZ.body : Code := bodyOf Try.f15
noncomputable def dropZ.rs : List ResultVar := Try.f15.results.toList
def dropZ.live : List (Nat × Live) := []
noncomputable def dropZ.specs  : List (Nat × (List Bool × ISpec)) := []
noncomputable def dropZ.ospecs  : List (Nat × OS) := [(16, ⟨[], [], countZ.sp⟩)]
noncomputable def dropZ.cfg  : Cfg := ⟨lkp tab, lkp (dropZ.specs ), lkp dropZ.live, ⟨lkp (dropZ.ospecs ), oids 0 dropZ.ps, some ([.plain], []), false⟩⟩
noncomputable def dropZ.go  (m : Nat) (x0 : Int) : R := run (dropZ.cfg ) 21 dropZ.rs m [.code dropZ.body] (enterO (ivAO 0 dropZ.ps (x0, ())) (bxAO 0 dropZ.ps (x0, ())))
theorem dropZ.start  (m : Nat) (x0 : Int) : dropZ.go  (m + 1) x0 =
  some ((.c (.v (.int .i64 (0 : Int)))), []) := by kernel_rfl
theorem dropZ.run_eq  (m : Nat) (x0 : Int) : run (dropZ.cfg ) Try.f15.ntmps Try.f15.results.toList m [.code (bodyOf Try.f15)] (enterO (ivAO 0 dropZ.ps (x0, ())) (bxAO 0 dropZ.ps (x0, ()))) = dropZ.go  m x0 := by kernel_rfl
theorem dropZ.ret  (hs : SpecsOK Try.prog (dropZ.specs )) (ho : OSpecsOK Try.prog (dropZ.ospecs )) (x0 : Int) {m : Nat} {r : IV} {b : List (Nat × Box)} (h : dropZ.go  m x0 = some (r, b)) : VE.ReturnsO Try.prog 15 (ivAO 0 dropZ.ps (x0, ())) (bxAO 0 dropZ.ps (x0, ())) r b :=
  returnsO_of_run (cfg := dropZ.cfg ) (cfgOK_of mixed tab_ok hs ho) rfl Try.func15 (body_some (by kernel_rfl)) (Nat.le_of_ble_eq_true (by kernel_rfl)) (fun _ _ _ h => oids_mem h) ((dropZ.run_eq  m x0).trans h)
abbrev dropZ.Law : Prop := ∀ (x0 : Int), dropZ.pre (x0, ()) = true → VE.ReturnsO Try.prog 15 (ivAO 0 dropZ.ps (x0, ())) (bxAO 0 dropZ.ps (x0, ())) (dropZ.res (x0, ())) (dropZ.back (x0, ()))
theorem dropZ.mkR (H : ∀ (x0 : Int), dropZ.pre (x0, ()) = true → VE.ReturnsO Try.prog 15 (ivAO 0 dropZ.ps (x0, ())) (bxAO 0 dropZ.ps (x0, ())) (dropZ.res (x0, ())) (dropZ.back (x0, ()))) : SpecOKO Try.prog 15 dropZ.sp :=
  specO_ret Try.func15 (by kernel_rfl) (by kernel_rfl) fun (x : Int × Unit) hx => H (x.1) hx
theorem dropZ.mk  (hs : SpecsOK Try.prog (dropZ.specs )) (ho : OSpecsOK Try.prog (dropZ.ospecs )) (H : ∀ (x0 : Int), dropZ.pre (x0, ()) = true → ∃ m, dropZ.go  m x0 = some (dropZ.res (x0, ()), dropZ.back (x0, ()))) : SpecOKO Try.prog 15 dropZ.sp :=
  dropZ.mkR fun x0 hx => (H x0 hx).elim fun _ hm => dropZ.ret  hs ho x0 hm

/-! ### (*triage/triageref10.Book).Of -/
abbrev ofR.ps : List AK := [.p TBookR, .d false (.int .i64)]
def ofR.pre : ElA ofR.ps → Bool := fun (x : (El TBookR) × Int × Unit) => fits TBookR (x.1) && (fits (.int .i64) (x.2.1) && (true))
def ofR.res : ElA ofR.ps → IV := fun (x : (El TBookR) × Int × Unit) => (fun b i => .tup [vi .i64 (ofRI b i), vb (ofRB b i)]) x.1 x.2.1
def ofR.sp : ISpec := spOf ofR.ps ofR.pre ofR.res
abbrev ofR.OK : Prop := SpecOK Try.prog 20 ofR.sp
noncomputable def ofR.body : Code := bodyOf Try.f20
noncomputable def ofR.rs : List ResultVar := Try.f20.results.toList
def ofR.live : List (Nat × Live) := [(2, ⟨[(1, .plain), (11, .sl TKey), (12, .plain), (13, .plain)], []⟩)]
noncomputable def ofR.specs  : List (Nat × (List Bool × ISpec)) := []
noncomputable def ofR.ospecs  : List (Nat × OS) := []
noncomputable def ofR.cfg  : Cfg := ⟨lkp tab, lkp (ofR.specs ), lkp ofR.live, ⟨lkp (ofR.ospecs ), [], none, false⟩⟩
noncomputable def ofR.l1  (m : Nat) (x0 : Int) (x1 : List (El TKey)) (x2 : Int) (x3 : Int) : R := run (ofR.cfg ) 24 ofR.rs m ((todoR 2 ofR.body []).getD []) ⟨ofList (.c .junk) [(1, (.c (.v (.int .i64 x0)))), (11, (.c (.sl TKey x1))), (12, (.c (.v (.int .i64 x2)))), (13, (.c (.v (.int .i64 x3))))], ofList none [], ofList false []⟩
noncomputable def ofR.go  (m : Nat) (x0 : (El TBookR)) (x1 : Int) : R := run (ofR.cfg ) 24 ofR.rs m [.code ofR.body] (enter (ivA ofR.ps (x0, x1, ())))
theorem ofR.start  (m : Nat) (x0 : (El TBookR)) (x1 : Int) : ofR.go  (m + 1) x0 x1 =
  ofR.l1  m x1 x0.1 ((List.length x0.1) : Int) (0 : Int) := by kernel_rfl
theorem ofR.s1  (m : Nat) (x0 : Int) (x1 : List (El TKey)) (x2 : Int) (x3 : Int) : ofR.l1  (m + 1) x0 x1 x2 x3 =
  cond (decide (x3 < x2)) (
   test (decide ((0 : Int) ≤ x3)) (
    test (decide (x3 < ((List.length x1) : Int))) (
     cond (((rdEl TKey x1 (Int.toNat x3))).1 == x0) (
      some ((.tup [(.c (.v (.int .i64 ((rdEl TKey x1 (Int.toNat x3))).2))), (.c (.v (.bool true)))]), [])) (
      ofR.l1  m x0 x1 x2 (IntKind.i64.wrap (x3 + (1 : Int))))))) (
   some ((.tup [(.c (.v (.int .i64 (0 : Int)))), (.c (.v (.bool false)))]), [])) := by kernel_rfl
theorem ofR.run_eq  (m : Nat) (x0 : (El TBookR)) (x1 : Int) : run (ofR.cfg ) Try.f20.ntmps Try.f20.results.toList m [.code (bodyOf Try.f20)] (enter (ivA ofR.ps (x0, x1, ()))) = ofR.go  m x0 x1 := by kernel_rfl
theorem ofR.ret  (hs : SpecsOK Try.prog (ofR.specs ))  (x0 : (El TBookR)) (x1 : Int) {m : Nat} {r : IV} (h : ofR.go  m x0 x1 = some (r, [])) : VE.Returns Try.prog 20 (ivA ofR.ps (x0, x1, ())) r :=
  returns_of_run (cfg := ofR.cfg ) (cfgOK_of mixed tab_ok hs .nil) rfl Try.func20 (body_some (by kernel_rfl)) (Nat.le_of_ble_eq_true (by kernel_rfl)) ((ofR.run_eq  m x0 x1).trans h)
abbrev ofR.Law : Prop := ∀ (x0 : (El TBookR)) (x1 : Int), ofR.pre (x0, x1, ()) = true → VE.Returns Try.prog 20 (ivA ofR.ps (x0, x1, ())) (ofR.res (x0, x1, ()))
theorem ofR.mkR (H : ∀ (x0 : (El TBookR)) (x1 : Int), ofR.pre (x0, x1, ()) = true → VE.Returns Try.prog 20 (ivA ofR.ps (x0, x1, ())) (ofR.res (x0, x1, ()))) : SpecOK Try.prog 20 ofR.sp :=
  specOf_ret Try.func20 (by kernel_rfl) (by kernel_rfl) fun (x : (El TBookR) × Int × Unit) hx => H (x.1) (x.2.1) hx
theorem ofR.mk  (hs : SpecsOK Try.prog (ofR.specs ))  (H : ∀ (x0 : (El TBookR)) (x1 : Int), ofR.pre (x0, x1, ()) = true → ∃ m, ofR.go  m x0 x1 = some (ofR.res (x0, x1, ()), [])) : SpecOK Try.prog 20 ofR.sp :=
  ofR.mkR fun x0 x1 hx => (H x0 x1 hx).elim fun _ hm => ofR.ret  hs  x0 x1 hm

/-! ### (*triage/triageref10.Book).Open -/
abbrev openR.ps : List AK := [.o 47 TBookR [some 35, none], .d false (.int .i64)]
def openR.pre : ElA openR.ps → Bool := fun (x : (El TBookR) × Int × Unit) => fits TBookR (x.1) && (fits (.int .i64) (x.2.1) && (true))
def openR.rv : ElA openR.ps → List RV := fun (x : (El TBookR) × Int × Unit) => [.d ((fun b h => vi .i64 (openRI b)) x.1 x.2.1), .d ((fun b h => vi .i64 (openRE b)) x.1 x.2.1)]
def openR.res : ElA openR.ps → IV := fun x => oneOrTup (rvIVs 0 (openR.rv x))
def openR.back : ElA openR.ps → List (Nat × Box) := fun (x : (El TBookR) × Int × Unit) => rvBxs 0 (openR.rv x) ++ objBx 0 47 TBookR [some 35, none] ((fun b h => openRB b h) x.1 x.2.1)
def openR.sp : OSpec := spO openR.ps openR.pre openR.res openR.back
abbrev openR.OK : Prop := SpecOKO Try.prog 19 openR.sp
noncomputable def openR.body : Code := bodyOf Try.f19
noncomputable def openR.rs : List ResultVar := Try.f19.results.toList
def openR.live : List (Nat × Live) := []
noncomputable def openR.specs  : List (Nat × (List Bool × ISpec)) := []
noncomputable def openR.ospecs  : List (Nat × OS) := []
noncomputable def openR.cfg  : Cfg := ⟨lkp tab, lkp (openR.specs ), lkp openR.live, ⟨lkp (openR.ospecs ), oids 0 openR.ps, some ([.plain, .plain], [(oid 0, [.arr 35 TKey, .plain])]), false⟩⟩
noncomputable def openR.go  (m : Nat) (x0 : (El TBookR)) (x1 : Int) : R := run (openR.cfg ) 38 openR.rs m [.code openR.body] (enterO (ivAO 0 openR.ps (x0, x1, ())) (bxAO 0 openR.ps (x0, x1, ())))
theorem openR.start  (m : Nat) (x0 : (El TBookR)) (x1 : Int) : openR.go  (m + 1) x0 x1 =
  cond (decide (((List.length x0.1) : Int) ≥ (2000 : Int))) (
   some ((.tup [(.c (.v (.int .i64 (0 : Int)))), (.c (.v (.int .i64 (6 : Int))))]), [(102526, (.cells 47 [(.sref 13251328), (.v (.int .i64 x0.2))])), (13251328, (.arr 35 TKey x0.1 false))])) (
   test (decide (((List.length x0.1) + (List.length (((IntKind.i64.wrap (x0.2 + (1 : Int))), x1) :: ([] : List (El TKey))))) ≤ (lim 16))) (
    some ((.tup [(.c (.v (.int .i64 (IntKind.i64.wrap (x0.2 + (1 : Int)))))), (.c (.v (.int .i64 (0 : Int))))]), [(102526, (.cells 47 [(.sref 13251328), (.v (.int .i64 (IntKind.i64.wrap (x0.2 + (1 : Int)))))])), (13251328, (.arr 35 TKey (x0.1 ++ (((IntKind.i64.wrap (x0.2 + (1 : Int))), x1) :: ([] : List (El TKey)))) false))]))) := by kernel_rfl
theorem openR.run_eq  (m : Nat) (x0 : (El TBookR)) (x1 : Int) : run (openR.cfg ) Try.f19.ntmps Try.f19.results.toList m [.code (bodyOf Try.f19)] (enterO (ivAO 0 openR.ps (x0, x1, ())) (bxAO 0 openR.ps (x0, x1, ()))) = openR.go  m x0 x1 := by kernel_rfl
theorem openR.ret  (hs : SpecsOK Try.prog (openR.specs ))  (x0 : (El TBookR)) (x1 : Int) {m : Nat} {r : IV} {b : List (Nat × Box)} (h : openR.go  m x0 x1 = some (r, b)) : VE.ReturnsO Try.prog 19 (ivAO 0 openR.ps (x0, x1, ())) (bxAO 0 openR.ps (x0, x1, ())) r b :=
  returnsO_of_run (cfg := openR.cfg ) (cfgOK_of mixed tab_ok hs .nil) rfl Try.func19 (body_some (by kernel_rfl)) (Nat.le_of_ble_eq_true (by kernel_rfl)) (fun _ _ _ h => oids_mem h) ((openR.run_eq  m x0 x1).trans h)
abbrev openR.Law : Prop := ∀ (x0 : (El TBookR)) (x1 : Int), openR.pre (x0, x1, ()) = true → VE.ReturnsO Try.prog 19 (ivAO 0 openR.ps (x0, x1, ())) (bxAO 0 openR.ps (x0, x1, ())) (openR.res (x0, x1, ())) (openR.back (x0, x1, ()))
theorem openR.mkR (H : ∀ (x0 : (El TBookR)) (x1 : Int), openR.pre (x0, x1, ()) = true → VE.ReturnsO Try.prog 19 (ivAO 0 openR.ps (x0, x1, ())) (bxAO 0 openR.ps (x0, x1, ())) (openR.res (x0, x1, ())) (openR.back (x0, x1, ()))) : SpecOKO Try.prog 19 openR.sp :=
  specO_ret Try.func19 (by kernel_rfl) (by kernel_rfl) fun (x : (El TBookR) × Int × Unit) hx => H (x.1) (x.2.1) hx
theorem openR.mk  (hs : SpecsOK Try.prog (openR.specs ))  (H : ∀ (x0 : (El TBookR)) (x1 : Int), openR.pre (x0, x1, ()) = true → ∃ m, openR.go  m x0 x1 = some (openR.res (x0, x1, ()), openR.back (x0, x1, ()))) : SpecOKO Try.prog 19 openR.sp :=
  openR.mkR fun x0 x1 hx => (H x0 x1 hx).elim fun _ hm => openR.ret  hs  x0 x1 hm

/-! ### (*triage/triageref10.Book).Close -/
abbrev closeR.ps : List AK := [.o 47 TBookR [some 35, none], .d false (.int .i64)]
def closeR.pre : ElA closeR.ps → Bool := fun (x : (El TBookR) × Int × Unit) => fits TBookR (x.1) && (fits (.int .i64) (x.2.1) && (true))
def closeR.rv : ElA closeR.ps → List RV := fun (x : (El TBookR) × Int × Unit) => [.d ((fun b i => vi .i64 (ofRI b i)) x.1 x.2.1), .d ((fun b i => vi .i64 (bif ofRB b i then 0 else 4)) x.1 x.2.1)]
def closeR.res : ElA closeR.ps → IV := fun x => oneOrTup (rvIVs 0 (closeR.rv x))
def closeR.back : ElA closeR.ps → List (Nat × Box) := fun (x : (El TBookR) × Int × Unit) => rvBxs 0 (closeR.rv x) ++ objBx 0 47 TBookR [some 35, none] ((fun b i => closeRB b i) x.1 x.2.1)
def closeR.sp : OSpec := spO closeR.ps closeR.pre closeR.res closeR.back
abbrev closeR.OK : Prop := SpecOKO Try.prog 17 closeR.sp
noncomputable def closeR.body : Code := bodyOf Try.f17
noncomputable def closeR.rs : List ResultVar := Try.f17.results.toList
def closeR.live : List (Nat × Live) := [(6, ⟨[(0, .plain), (1, .plain), (6, .plain), (8, .arr 35 TKey), (22, .plain), (23, .plain), (24, .plain)], [(oid 0, [.arr 35 TKey, .plain])]⟩)]
noncomputable def closeR.specs  : List (Nat × (List Bool × ISpec)) := [(20, ([], ofR.sp))]
noncomputable def closeR.ospecs  : List (Nat × OS) := []
noncomputable def closeR.cfg  : Cfg := ⟨lkp tab, lkp (closeR.specs ), lkp closeR.live, ⟨lkp (closeR.ospecs ), oids 0 closeR.ps, some ([.plain, .plain], [(oid 0, [.arr 35 TKey, .plain])]), false⟩⟩
noncomputable def closeR.l1  (m : Nat) (x0 : Int) (x1 : Int) (x2 : Int) (x3 : Int) (x4 : List (El TKey)) (x5 : Int) (x6 : List (El TKey)) : R := run (closeR.cfg ) 42 closeR.rs m ((todoR 6 closeR.body []).getD []) ⟨ofList (.c .junk) [(0, (.c (.ref 102526 0))), (1, (.c (.v (.int .i64 x0)))), (6, (.c (.v (.int .i64 x1)))), (8, (.c (.sref 1150))), (22, (.c (.sref 13251328))), (23, (.c (.v (.int .i64 x2)))), (24, (.c (.v (.int .i64 x3))))], ofList none [(1150, some (.arr 35 TKey x4 false)), (102526, some (.cells 47 [(.sref 13251328), (.v (.int .i64 x5))])), (13251328, some (.arr 35 TKey x6 false))], ofList false [(1150, true), (102526, true), (13251328, true)]⟩
noncomputable def closeR.go  (m : Nat) (x0 : (El TBookR)) (x1 : Int) : R := run (closeR.cfg ) 42 closeR.rs m [.code closeR.body] (enterO (ivAO 0 closeR.ps (x0, x1, ())) (bxAO 0 closeR.ps (x0, x1, ())))
theorem closeR.start  (m : Nat) (x0 : (El TBookR)) (x1 : Int) : closeR.go  (m + 1) x0 x1 =
  test (ofR.pre (x0, (x1, Unit.unit))) (
   cond (Bool.not (ofRB x0 x1)) (
    some ((.tup [(.c (.v (.int .i64 (0 : Int)))), (.c (.v (.int .i64 (4 : Int))))]), [(102526, (.cells 47 [(.sref 13251328), (.v (.int .i64 x0.2))])), (13251328, (.arr 35 TKey x0.1 false))])) (
    closeR.l1  m x1 (ofRI x0 x1) ((List.length x0.1) : Int) (0 : Int) ([] : List (El TKey)) x0.2 x0.1)) := by kernel_rfl
theorem closeR.s1  (m : Nat) (x0 : Int) (x1 : Int) (x2 : Int) (x3 : Int) (x4 : List (El TKey)) (x5 : Int) (x6 : List (El TKey)) : closeR.l1  (m + 1) x0 x1 x2 x3 x4 x5 x6 =
  cond (decide (x3 < x2)) (
   test (decide ((0 : Int) ≤ x3)) (
    test (decide (x3 < ((List.length x6) : Int))) (
     cond (bne ((rdEl TKey x6 (Int.toNat x3))).1 x0) (
      test (decide (((List.length x4) + (List.length (((rdEl TKey x6 (Int.toNat x3))) :: ([] : List (El TKey))))) ≤ (lim 16))) (
       closeR.l1  m x0 x1 x2 (IntKind.i64.wrap (x3 + (1 : Int))) (x4 ++ (((rdEl TKey x6 (Int.toNat x3))) :: ([] : List (El TKey)))) x5 x6)) (
      closeR.l1  m x0 x1 x2 (IntKind.i64.wrap (x3 + (1 : Int))) x4 x5 x6)))) (
   some ((.tup [(.c (.v (.int .i64 x1))), (.c (.v (.int .i64 (0 : Int))))]), [(102526, (.cells 47 [(.sref 13251328), (.v (.int .i64 x5))])), (13251328, (.arr 35 TKey x4 false))])) := by kernel_rfl
theorem closeR.run_eq  (m : Nat) (x0 : (El TBookR)) (x1 : Int) : run (closeR.cfg ) Try.f17.ntmps Try.f17.results.toList m [.code (bodyOf Try.f17)] (enterO (ivAO 0 closeR.ps (x0, x1, ())) (bxAO 0 closeR.ps (x0, x1, ()))) = closeR.go  m x0 x1 := by kernel_rfl
theorem closeR.ret  (hs : SpecsOK Try.prog (closeR.specs ))  (x0 : (El TBookR)) (x1 : Int) {m : Nat} {r : IV} {b : List (Nat × Box)} (h : closeR.go  m x0 x1 = some (r, b)) : VE.ReturnsO Try.prog 17 (ivAO 0 closeR.ps (x0, x1, ())) (bxAO 0 closeR.ps (x0, x1, ())) r b :=
  returnsO_of_run (cfg := closeR.cfg ) (cfgOK_of mixed tab_ok hs .nil) rfl Try.func17 (body_some (by kernel_rfl)) (Nat.le_of_ble_eq_true (by kernel_rfl)) (fun _ _ _ h => oids_mem h) ((closeR.run_eq  m x0 x1).trans h)
abbrev closeR.Law : Prop := ∀ (x0 : (El TBookR)) (x1 : Int), closeR.pre (x0, x1, ()) = true → VE.ReturnsO Try.prog 17 (ivAO 0 closeR.ps (x0, x1, ())) (bxAO 0 closeR.ps (x0, x1, ())) (closeR.res (x0, x1, ())) (closeR.back (x0, x1, ()))
theorem closeR.mkR (H : ∀ (x0 : (El TBookR)) (x1 : Int), closeR.pre (x0, x1, ()) = true → VE.ReturnsO Try.prog 17 (ivAO 0 closeR.ps (x0, x1, ())) (bxAO 0 closeR.ps (x0, x1, ())) (closeR.res (x0, x1, ())) (closeR.back (x0, x1, ()))) : SpecOKO Try.prog 17 closeR.sp :=
  specO_ret Try.func17 (by kernel_rfl) (by kernel_rfl) fun (x : (El TBookR) × Int × Unit) hx => H (x.1) (x.2.1) hx
theorem closeR.mk  (hs : SpecsOK Try.prog (closeR.specs ))  (H : ∀ (x0 : (El TBookR)) (x1 : Int), closeR.pre (x0, x1, ()) = true → ∃ m, closeR.go  m x0 x1 = some (closeR.res (x0, x1, ()), closeR.back (x0, x1, ()))) : SpecOKO Try.prog 17 closeR.sp :=
  closeR.mkR fun x0 x1 hx => (H x0 x1 hx).elim fun _ hm => closeR.ret  hs  x0 x1 hm

/-! ### (*triage/triageref10.Book).Drop -/
abbrev dropR.ps : List AK := [.o 47 TBookR [some 35, none], .d false (.int .i64)]
def dropR.pre : ElA dropR.ps → Bool := fun (x : (El TBookR) × Int × Unit) => fits TBookR (x.1) && (fits (.int .i64) (x.2.1) && (true))
def dropR.rv : ElA dropR.ps → List RV := fun (x : (El TBookR) × Int × Unit) => [.d ((fun b h => vi .i64 (countRI b h)) x.1 x.2.1)]
def dropR.res : ElA dropR.ps → IV := fun x => oneOrTup (rvIVs 0 (dropR.rv x))
def dropR.back : ElA dropR.ps → List (Nat × Box) := fun (x : (El TBookR) × Int × Unit) => rvBxs 0 (dropR.rv x) ++ objBx 0 47 TBookR [some 35, none] ((fun b h => dropRB b h) x.1 x.2.1)
def dropR.sp : OSpec := spO dropR.ps dropR.pre dropR.res dropR.back
abbrev dropR.OK : Prop := SpecOKO Try.prog 18 dropR.sp
noncomputable def dropR.body : Code := bodyOf Try.f18
noncomputable def dropR.rs : List ResultVar := Try.f18.results.toList
def dropR.live : List (Nat × Live) := [(3, ⟨[(0, .plain), (1, .plain), (5, .arr 35 TKey), (12, .plain), (13, .plain), (14, .plain)], [(oid 0, [.arr 35 TKey, .plain])]⟩)]
noncomputable def dropR.specs  : List (Nat × (List Bool × ISpec)) := []
noncomputable def dropR.ospecs  : List (Nat × OS) := []
noncomputable def dropR.cfg  : Cfg := ⟨lkp tab, lkp (dropR.specs ), lkp dropR.live, ⟨lkp (dropR.ospecs ), oids 0 dropR.ps, some ([.plain], [(oid 0, [.arr 35 TKey, .plain])]), false⟩⟩
noncomputable def dropR.l1  (m : Nat) (x0 : Int) (x1 : Int) (x2 : Int) (x3 : List (El TKey)) (x4 : Int) (x5 : List (El TKey)) : R := run (dropR.cfg ) 40 dropR.rs m ((todoR 3 dropR.body []).getD []) ⟨ofList (.c .junk) [(0, (.c (.ref 102526 0))), (1, (.c (.v (.int .i64 x0)))), (5, (.c (.sref 766))), (12, (.c (.sref 13251328))), (13, (.c (.v (.int .i64 x1)))), (14, (.c (.v (.int .i64 x2))))], ofList none [(766, some (.arr 35 TKey x3 false)), (102526, some (.cells 47 [(.sref 13251328), (.v (.int .i64 x4))])), (13251328, some (.arr 35 TKey x5 false))], ofList false [(766, true), (102526, true), (13251328, true)]⟩
noncomputable def dropR.go  (m : Nat) (x0 : (El TBookR)) (x1 : Int) : R := run (dropR.cfg ) 40 dropR.rs m [.code dropR.body] (enterO (ivAO 0 dropR.ps (x0, x1, ())) (bxAO 0 dropR.ps (x0, x1, ())))
theorem dropR.start  (m : Nat) (x0 : (El TBookR)) (x1 : Int) : dropR.go  (m + 1) x0 x1 =
  dropR.l1  m x1 ((List.length x0.1) : Int) (0 : Int) ([] : List (El TKey)) x0.2 x0.1 := by kernel_rfl
theorem dropR.s1  (m : Nat) (x0 : Int) (x1 : Int) (x2 : Int) (x3 : List (El TKey)) (x4 : Int) (x5 : List (El TKey)) : dropR.l1  (m + 1) x0 x1 x2 x3 x4 x5 =
  cond (decide (x2 < x1)) (
   test (decide ((0 : Int) ≤ x2)) (
    test (decide (x2 < ((List.length x5) : Int))) (
     cond (bne ((rdEl TKey x5 (Int.toNat x2))).2 x0) (
      test (decide (((List.length x3) + (List.length (((rdEl TKey x5 (Int.toNat x2))) :: ([] : List (El TKey))))) ≤ (lim 16))) (
       dropR.l1  m x0 x1 (IntKind.i64.wrap (x2 + (1 : Int))) (x3 ++ (((rdEl TKey x5 (Int.toNat x2))) :: ([] : List (El TKey)))) x4 x5)) (
      dropR.l1  m x0 x1 (IntKind.i64.wrap (x2 + (1 : Int))) x3 x4 x5)))) (
   some ((.c (.v (.int .i64 (IntKind.i64.wrap (((List.length x5) : Int) - ((List.length x3) : Int)))))), [(102526, (.cells 47 [(.sref 13251328), (.v (.int .i64 x4))])), (13251328, (.arr 35 TKey x3 false))])) := by kernel_rfl
theorem dropR.run_eq  (m : Nat) (x0 : (El TBookR)) (x1 : Int) : run (dropR.cfg ) Try.f18.ntmps Try.f18.results.toList m [.code (bodyOf Try.f18)] (enterO (ivAO 0 dropR.ps (x0, x1, ())) (bxAO 0 dropR.ps (x0, x1, ()))) = dropR.go  m x0 x1 := by kernel_rfl
theorem dropR.ret  (hs : SpecsOK Try.prog (dropR.specs ))  (x0 : (El TBookR)) (x1 : Int) {m : Nat} {r : IV} {b : List (Nat × Box)} (h : dropR.go  m x0 x1 = some (r, b)) : VE.ReturnsO Try.prog 18 (ivAO 0 dropR.ps (x0, x1, ())) (bxAO 0 dropR.ps (x0, x1, ())) r b :=
  returnsO_of_run (cfg := dropR.cfg ) (cfgOK_of mixed tab_ok hs .nil) rfl Try.func18 (body_some (by kernel_rfl)) (Nat.le_of_ble_eq_true (by kernel_rfl)) (fun _ _ _ h => oids_mem h) ((dropR.run_eq  m x0 x1).trans h)
abbrev dropR.Law : Prop := ∀ (x0 : (El TBookR)) (x1 : Int), dropR.pre (x0, x1, ()) = true → VE.ReturnsO Try.prog 18 (ivAO 0 dropR.ps (x0, x1, ())) (bxAO 0 dropR.ps (x0, x1, ())) (dropR.res (x0, x1, ())) (dropR.back (x0, x1, ()))
theorem dropR.mkR (H : ∀ (x0 : (El TBookR)) (x1 : Int), dropR.pre (x0, x1, ()) = true → VE.ReturnsO Try.prog 18 (ivAO 0 dropR.ps (x0, x1, ())) (bxAO 0 dropR.ps (x0, x1, ())) (dropR.res (x0, x1, ())) (dropR.back (x0, x1, ()))) : SpecOKO Try.prog 18 dropR.sp :=
  specO_ret Try.func18 (by kernel_rfl) (by kernel_rfl) fun (x : (El TBookR) × Int × Unit) hx => H (x.1) (x.2.1) hx
theorem dropR.mk  (hs : SpecsOK Try.prog (dropR.specs ))  (H : ∀ (x0 : (El TBookR)) (x1 : Int), dropR.pre (x0, x1, ()) = true → ∃ m, dropR.go  m x0 x1 = some (dropR.res (x0, x1, ()), dropR.back (x0, x1, ()))) : SpecOKO Try.prog 18 dropR.sp :=
  dropR.mkR fun x0 x1 hx => (H x0 x1 hx).elim fun _ hm => dropR.ret  hs  x0 x1 hm

/-! ### (*triage/triageref10.Book).Count -/
abbrev countR.ps : List AK := [.p TBookR, .d false (.int .i64)]
def countR.pre : ElA countR.ps → Bool := fun (x : (El TBookR) × Int × Unit) => fits TBookR (x.1) && (fits (.int .i64) (x.2.1) && (true))
def countR.res : ElA countR.ps → IV := fun (x : (El TBookR) × Int × Unit) => (fun b h => vi .i64 (countRI b h)) x.1 x.2.1
def countR.sp : ISpec := spOf countR.ps countR.pre countR.res
abbrev countR.OK : Prop := SpecOK Try.prog 21 countR.sp
noncomputable def countR.body : Code := bodyOf Try.f21
noncomputable def countR.rs : List ResultVar := Try.f21.results.toList
def countR.live : List (Nat × Live) := [(3, ⟨[(1, .plain), (5, .plain), (11, .sl TKey), (12, .plain), (13, .plain)], []⟩)]
noncomputable def countR.specs  : List (Nat × (List Bool × ISpec)) := []
noncomputable def countR.ospecs  : List (Nat × OS) := []
noncomputable def countR.cfg  : Cfg := ⟨lkp tab, lkp (countR.specs ), lkp countR.live, ⟨lkp (countR.ospecs ), [], none, false⟩⟩
noncomputable def countR.l1  (m : Nat) (x0 : Int) (x1 : Int) (x2 : List (El TKey)) (x3 : Int) (x4 : Int) : R := run (countR.cfg ) 25 countR.rs m ((todoR 3 countR.body []).getD []) ⟨ofList (.c .junk) [(1, (.c (.v (.int .i64 x0)))), (5, (.c (.v (.int .i64 x1)))), (11, (.c (.sl TKey x2))), (12, (.c (.v (.int .i64 x3)))), (13, (.c (.v (.int .i64 x4))))], ofList none [], ofList false []⟩
noncomputable def countR.go  (m : Nat) (x0 : (El TBookR)) (x1 : Int) : R := run (countR.cfg ) 25 countR.rs m [.code countR.body] (enter (ivA countR.ps (x0, x1, ())))
theorem countR.start  (m : Nat) (x0 : (El TBookR)) (x1 : Int) : countR.go  (m + 1) x0 x1 =
  countR.l1  m x1 (0 : Int) x0.1 ((List.length x0.1) : Int) (0 : Int) := by kernel_rfl
theorem countR.s1  (m : Nat) (x0 : Int) (x1 : Int) (x2 : List (El TKey)) (x3 : Int) (x4 : Int) : countR.l1  (m + 1) x0 x1 x2 x3 x4 =
  cond (decide (x4 < x3)) (
   test (decide ((0 : Int) ≤ x4)) (
    test (decide (x4 < ((List.length x2) : Int))) (
     cond (((rdEl TKey x2 (Int.toNat x4))).2 == x0) (
      countR.l1  m x0 (IntKind.i64.wrap (x1 + (1 : Int))) x2 x3 (IntKind.i64.wrap (x4 + (1 : Int)))) (
      countR.l1  m x0 x1 x2 x3 (IntKind.i64.wrap (x4 + (1 : Int))))))) (
   some ((.c (.v (.int .i64 x1))), [])) := by kernel_rfl
theorem countR.run_eq  (m : Nat) (x0 : (El TBookR)) (x1 : Int) : run (countR.cfg ) Try.f21.ntmps Try.f21.results.toList m [.code (bodyOf Try.f21)] (enter (ivA countR.ps (x0, x1, ()))) = countR.go  m x0 x1 := by kernel_rfl
theorem countR.ret  (hs : SpecsOK Try.prog (countR.specs ))  (x0 : (El TBookR)) (x1 : Int) {m : Nat} {r : IV} (h : countR.go  m x0 x1 = some (r, [])) : VE.Returns Try.prog 21 (ivA countR.ps (x0, x1, ())) r :=
  returns_of_run (cfg := countR.cfg ) (cfgOK_of mixed tab_ok hs .nil) rfl Try.func21 (body_some (by kernel_rfl)) (Nat.le_of_ble_eq_true (by kernel_rfl)) ((countR.run_eq  m x0 x1).trans h)
abbrev countR.Law : Prop := ∀ (x0 : (El TBookR)) (x1 : Int), countR.pre (x0, x1, ()) = true → VE.Returns Try.prog 21 (ivA countR.ps (x0, x1, ())) (countR.res (x0, x1, ()))
theorem countR.mkR (H : ∀ (x0 : (El TBookR)) (x1 : Int), countR.pre (x0, x1, ()) = true → VE.Returns Try.prog 21 (ivA countR.ps (x0, x1, ())) (countR.res (x0, x1, ()))) : SpecOK Try.prog 21 countR.sp :=
  specOf_ret Try.func21 (by kernel_rfl) (by kernel_rfl) fun (x : (El TBookR) × Int × Unit) hx => H (x.1) (x.2.1) hx
theorem countR.mk  (hs : SpecsOK Try.prog (countR.specs ))  (H : ∀ (x0 : (El TBookR)) (x1 : Int), countR.pre (x0, x1, ()) = true → ∃ m, countR.go  m x0 x1 = some (countR.res (x0, x1, ()), [])) : SpecOK Try.prog 21 countR.sp :=
  countR.mkR fun x0 x1 hx => (H x0 x1 hx).elim fun _ hm => countR.ret  hs  x0 x1 hm

/-! ### triage/triageref10.SameTickets -/
abbrev sameT.ps : List AK := [.d false (.sl TKey), .d false (.sl TKey)]
def sameT.pre : ElA sameT.ps → Bool := fun (x : (List (El TKey)) × (List (El TKey)) × Unit) => fits (.sl TKey) (x.1) && (fits (.sl TKey) (x.2.1) && (true))
def sameT.res : ElA sameT.ps → IV := fun (x : (List (El TKey)) × (List (El TKey)) × Unit) => (fun l m => vb (eqK l m)) x.1 x.2.1
def sameT.sp : ISpec := spOf sameT.ps sameT.pre sameT.res
abbrev sameT.OK : Prop := SpecOK Try.prog 22 sameT.sp
noncomputable def sameT.body : Code := bodyOf Try.f22
noncomputable def sameT.rs : List ResultVar := Try.f22.results.toList
def sameT.live : List (Nat × Live) := [(4, ⟨[(0, .sl TKey), (1, .sl TKey), (12, .plain), (13, .plain)], []⟩)]
noncomputable def sameT.specs  : List (Nat × (List Bool × ISpec)) := []
noncomputable def sameT.ospecs  : List (Nat × OS) := []
noncomputable def sameT.cfg  : Cfg := ⟨lkp tab, lkp (sameT.specs ), lkp sameT.live, ⟨lkp (sameT.ospecs ), [], none, false⟩⟩
noncomputable def sameT.l1  (m : Nat) (x0 : List (El TKey)) (x1 : List (El TKey)) (x2 : Int) (x3 : Int) : R := run (sameT.cfg ) 26 sameT.rs m ((todoR 4 sameT.body []).getD []) ⟨ofList (.c .junk) [(0, (.c (.sl TKey x0))), (1, (.c (.sl TKey x1))), (12, (.c (.v (.int .i64 x2)))), (13, (.c (.v (.int .i64 x3))))], ofList none [], ofList false []⟩
noncomputable def sameT.go  (m : Nat) (x0 : (List (El TKey))) (x1 : (List (El TKey))) : R := run (sameT.cfg ) 26 sameT.rs m [.code sameT.body] (enter (ivA sameT.ps (x0, x1, ())))
theorem sameT.start  (m : Nat) (x0 : (List (El TKey))) (x1 : (List (El TKey))) : sameT.go  (m + 1) x0 x1 =
  cond (bne ((List.length x0) : Int) ((List.length x1) : Int)) (
   some ((.c (.v (.bool false))), [])) (
   sameT.l1  m x0 x1 ((List.length x0) : Int) (0 : Int)) := by kernel_rfl
theorem sameT.s1  (m : Nat) (x0 : List (El TKey)) (x1 : List (El TKey)) (x2 : Int) (x3 : Int) : sameT.l1  (m + 1) x0 x1 x2 x3 =
  cond (decide (x3 < x2)) (
   test (decide ((0 : Int) ≤ x3)) (
    test (decide (x3 < ((List.length x0) : Int))) (
     test (decide ((0 : Int) ≤ x3)) (
      test (decide (x3 < ((List.length x1) : Int))) (
       cond (Bool.not ((((rdEl TKey x0 (Int.toNat x3))).1 == ((rdEl TKey x1 (Int.toNat x3))).1) && ((((rdEl TKey x0 (Int.toNat x3))).2 == ((rdEl TKey x1 (Int.toNat x3))).2) && true))) (
        some ((.c (.v (.bool false))), [])) (
        sameT.l1  m x0 x1 x2 (IntKind.i64.wrap (x3 + (1 : Int))))))))) (
   some ((.c (.v (.bool true))), [])) := by kernel_rfl
theorem sameT.run_eq  (m : Nat) (x0 : (List (El TKey))) (x1 : (List (El TKey))) : run (sameT.cfg ) Try.f22.ntmps Try.f22.results.toList m [.code (bodyOf Try.f22)] (enter (ivA sameT.ps (x0, x1, ()))) = sameT.go  m x0 x1 := by kernel_rfl
theorem sameT.ret  (hs : SpecsOK Try.prog (sameT.specs ))  (x0 : (List (El TKey))) (x1 : (List (El TKey))) {m : Nat} {r : IV} (h : sameT.go  m x0 x1 = some (r, [])) : VE.Returns Try.prog 22 (ivA sameT.ps (x0, x1, ())) r :=
  returns_of_run (cfg := sameT.cfg ) (cfgOK_of mixed tab_ok hs .nil) rfl Try.func22 (body_some (by kernel_rfl)) (Nat.le_of_ble_eq_true (by kernel_rfl)) ((sameT.run_eq  m x0 x1).trans h)
abbrev sameT.Law : Prop := ∀ (x0 : (List (El TKey))) (x1 : (List (El TKey))), sameT.pre (x0, x1, ()) = true → VE.Returns Try.prog 22 (ivA sameT.ps (x0, x1, ())) (sameT.res (x0, x1, ()))
theorem sameT.mkR (H : ∀ (x0 : (List (El TKey))) (x1 : (List (El TKey))), sameT.pre (x0, x1, ()) = true → VE.Returns Try.prog 22 (ivA sameT.ps (x0, x1, ())) (sameT.res (x0, x1, ()))) : SpecOK Try.prog 22 sameT.sp :=
  specOf_ret Try.func22 (by kernel_rfl) (by kernel_rfl) fun (x : (List (El TKey)) × (List (El TKey)) × Unit) hx => H (x.1) (x.2.1) hx
theorem sameT.mk  (hs : SpecsOK Try.prog (sameT.specs ))  (H : ∀ (x0 : (List (El TKey))) (x1 : (List (El TKey))), sameT.pre (x0, x1, ()) = true → ∃ m, sameT.go  m x0 x1 = some (sameT.res (x0, x1, ()), [])) : SpecOK Try.prog 22 sameT.sp :=
  sameT.mkR fun x0 x1 hx => (H x0 x1 hx).elim fun _ hm => sameT.ret  hs  x0 x1 hm

/-! ### triage/triagelaw24.awake -/
abbrev awake.ps : List AK := []
def awake.pre : ElA awake.ps → Bool := fun (x : Unit) => true
def awake.res : ElA awake.ps → IV := fun (x : Unit) => (vb true) 
def awake.sp : ISpec := spOf awake.ps awake.pre awake.res
abbrev awake.OK : Prop := SpecOK Try.prog 8 awake.sp
noncomputable def awake.body : Code := bodyOf Try.f8
noncomputable def awake.rs : List ResultVar := Try.f8.results.toList
def awake.live : List (Nat × Live) := []
noncomputable def awake.specs  : List (Nat × (List Bool × ISpec)) := []
noncomputable def awake.ospecs  : List (Nat × OS) := [(9, ⟨[], [], new.sp⟩), (10, ⟨[some (.obj [.plain, .arr 54 TKey])], [], open.sp⟩), (11, ⟨[some (.obj [.plain, .arr 54 TKey])], [], close.sp⟩), (16, ⟨[some (.obj [.plain, .arr 54 TKey])], [], count.sp⟩), (14, ⟨[some (.obj [.plain, .arr 54 TKey])], [], len.sp⟩)]
noncomputable def awake.cfg  : Cfg := ⟨lkp tab, lkp (awake.specs ), lkp awake.live, ⟨lkp (awake.ospecs ), [], none, false⟩⟩
noncomputable def awake.go  (m : Nat)  : R := run (awake.cfg ) 60 awake.rs m [.code awake.body] (enter (ivA awake.ps ()))
theorem awake.start  (m : Nat)  : awake.go  (m + 1)  =
  some ((.c (.v (.bool (((List.length ((openB ((closeB ((openB ((openB ((0 : El (Ty.int IntKind.i64)), ([] : List (El TKey))) (5 : Int))) (6 : Int))) (openI ((0 : El (Ty.int IntKind.i64)), ([] : List (El TKey)))))) (5 : Int))).2) : Int) == (2 : Int))))), []) := by kernel_rfl
theorem awake.run_eq  (m : Nat)  : run (awake.cfg ) Try.f8.ntmps Try.f8.results.toList m [.code (bodyOf Try.f8)] (enter (ivA awake.ps ())) = awake.go  m  := by kernel_rfl
theorem awake.ret  (hs : SpecsOK Try.prog (awake.specs )) (ho : OSpecsOK Try.prog (awake.ospecs ))  {m : Nat} {r : IV} (h : awake.go  m  = some (r, [])) : VE.Returns Try.prog 8 (ivA awake.ps ()) r :=
  returns_of_run (cfg := awake.cfg ) (cfgOK_of mixed tab_ok hs ho) rfl Try.func8 (body_some (by kernel_rfl)) (Nat.le_of_ble_eq_true (by kernel_rfl)) ((awake.run_eq  m ).trans h)
abbrev awake.Law : Prop := ∀ (_ : Unit), awake.pre () = true → VE.Returns Try.prog 8 (ivA awake.ps ()) (awake.res ())
theorem awake.mkR (H : ∀ (_ : Unit), awake.pre () = true → VE.Returns Try.prog 8 (ivA awake.ps ()) (awake.res ())) : SpecOK Try.prog 8 awake.sp :=
  specOf_ret Try.func8 (by kernel_rfl) (by kernel_rfl) fun (x : Unit) hx => H () hx
theorem awake.mk  (hs : SpecsOK Try.prog (awake.specs )) (ho : OSpecsOK Try.prog (awake.ospecs )) (H : ∀ (_ : Unit), awake.pre () = true → ∃ m, awake.go  m  = some (awake.res (), [])) : SpecOK Try.prog 8 awake.sp :=
  awake.mkR fun _ hx => (H () hx).elim fun _ hm => awake.ret  hs ho  hm

/-! ### triage/triagelaw24.TicketNil -/
abbrev lNil.ps : List AK := [.d false (.int .i64)]
def lNil.pre : ElA lNil.ps → Bool := fun (x : Int × Unit) => fits (.int .i64) (x.1) && (true)
def lNil.res : ElA lNil.ps → IV := fun (x : Int × Unit) => (fun _ => vb true) x.1
def lNil.sp : ISpec := spOf lNil.ps lNil.pre lNil.res
abbrev lNil.OK : Prop := SpecOK Try.prog 7 lNil.sp
noncomputable def lNil.body : Code := bodyOf Try.f7
noncomputable def lNil.rs : List ResultVar := Try.f7.results.toList
def lNil.live : List (Nat × Live) := []
noncomputable def lNil.specs  : List (Nat × (List Bool × ISpec)) := [(8, ([], awake.sp))]
noncomputable def lNil.ospecs  : List (Nat × OS) := [(10, ⟨[], [], openZ.sp⟩), (11, ⟨[], [], closeZ.sp⟩), (13, ⟨[], [], ofZ.sp⟩), (15, ⟨[], [], dropZ.sp⟩), (16, ⟨[], [], countZ.sp⟩), (14, ⟨[], [], lenZ.sp⟩), (12, ⟨[], [], allZ.sp⟩)]
noncomputable def lNil.cfg  : Cfg := ⟨lkp tab, lkp (lNil.specs ), lkp lNil.live, ⟨lkp (lNil.ospecs ), [], none, false⟩⟩
noncomputable def lNil.go  (m : Nat) (x0 : Int) : R := run (lNil.cfg ) 70 lNil.rs m [.code lNil.body] (enter (ivA lNil.ps (x0, ())))
theorem lNil.start  (m : Nat) (x0 : Int) : lNil.go  (m + 1) x0 =
  some ((.c (.v (.bool true))), []) := by kernel_rfl
theorem lNil.run_eq  (m : Nat) (x0 : Int) : run (lNil.cfg ) Try.f7.ntmps Try.f7.results.toList m [.code (bodyOf Try.f7)] (enter (ivA lNil.ps (x0, ()))) = lNil.go  m x0 := by kernel_rfl
theorem lNil.ret  (hs : SpecsOK Try.prog (lNil.specs )) (ho : OSpecsOK Try.prog (lNil.ospecs )) (x0 : Int) {m : Nat} {r : IV} (h : lNil.go  m x0 = some (r, [])) : VE.Returns Try.prog 7 (ivA lNil.ps (x0, ())) r :=
  returns_of_run (cfg := lNil.cfg ) (cfgOK_of mixed tab_ok hs ho) rfl Try.func7 (body_some (by kernel_rfl)) (Nat.le_of_ble_eq_true (by kernel_rfl)) ((lNil.run_eq  m x0).trans h)
abbrev lNil.Law : Prop := ∀ (x0 : Int), lNil.pre (x0, ()) = true → VE.Returns Try.prog 7 (ivA lNil.ps (x0, ())) (lNil.res (x0, ()))
theorem lNil.mkR (H : ∀ (x0 : Int), lNil.pre (x0, ()) = true → VE.Returns Try.prog 7 (ivA lNil.ps (x0, ())) (lNil.res (x0, ()))) : SpecOK Try.prog 7 lNil.sp :=
  specOf_ret Try.func7 (by kernel_rfl) (by kernel_rfl) fun (x : Int × Unit) hx => H (x.1) hx
theorem lNil.mk  (hs : SpecsOK Try.prog (lNil.specs )) (ho : OSpecsOK Try.prog (lNil.ospecs )) (H : ∀ (x0 : Int), lNil.pre (x0, ()) = true → ∃ m, lNil.go  m x0 = some (lNil.res (x0, ()), [])) : SpecOK Try.prog 7 lNil.sp :=
  lNil.mkR fun x0 hx => (H x0 hx).elim fun _ hm => lNil.ret  hs ho x0 hm

/-! ### triage/triagelaw24.TicketFull -/
abbrev lFull.ps : List AK := [.d false (.int .i64), .d false (.int .i64)]
def lFull.pre : ElA lFull.ps → Bool := fun (x : Int × Int × Unit) => fits (.int .i64) (x.1) && (fits (.int .i64) (x.2.1) && ((fun h _ => decide (-9223372036854775808 ≤ h ∧ h ≤ 9223372036854775807)) x.1 x.2.1 && (true)))
def lFull.res : ElA lFull.ps → IV := fun (x : Int × Int × Unit) => (fun _ _ => vb true) x.1 x.2.1
def lFull.sp : ISpec := spOf lFull.ps lFull.pre lFull.res
abbrev lFull.OK : Prop := SpecOK Try.prog 5 lFull.sp
noncomputable def lFull.body : Code := bodyOf Try.f5
noncomputable def lFull.rs : List ResultVar := Try.f5.results.toList
def lFull.live : List (Nat × Live) := [(3, ⟨[(0, .plain), (1, .plain), (5, .plain), (16, .plain)], [(37756928, [.plain, .arr 54 TKey])]⟩)]
noncomputable def lFull.specs  : List (Nat × (List Bool × ISpec)) := [(8, ([], awake.sp))]
noncomputable def lFull.ospecs  : List (Nat × OS) := [(9, ⟨[], [], new.sp⟩), (10, ⟨[some (.obj [.plain, .arr 54 TKey])], [], open.sp⟩), (11, ⟨[some (.obj [.plain, .arr 54 TKey])], [], close.sp⟩), (16, ⟨[some (.obj [.plain, .arr 54 TKey])], [], count.sp⟩), (15, ⟨[some (.obj [.plain, .arr 54 TKey])], [], drop.sp⟩), (14, ⟨[some (.obj [.plain, .arr 54 TKey])], [], len.sp⟩)]
noncomputable def lFull.cfg  : Cfg := ⟨lkp tab, lkp (lFull.specs ), lkp lFull.live, ⟨lkp (lFull.ospecs ), [], none, false⟩⟩
noncomputable def lFull.l1  (m : Nat) (x0 : Int) (x1 : Int) (x2 : Int) (x3 : Int) (x4 : List (El TKey)) : R := run (lFull.cfg ) 97 lFull.rs m ((todoR 3 lFull.body []).getD []) ⟨ofList (.c .junk) [(0, (.c (.v (.int .i64 x0)))), (1, (.c (.v (.int .i64 x1)))), (5, (.c (.ref 37756928 0))), (16, (.c (.v (.int .i64 x2))))], ofList none [(37756928, some (.cells 52 [(.v (.int .i64 x3)), (.sref 4833014786)])), (4833014786, some (.arr 54 TKey x4 false))], ofList false [(37756928, true), (4833014786, true)]⟩
noncomputable def lFull.go  (m : Nat) (x0 : Int) (x1 : Int) : R := run (lFull.cfg ) 97 lFull.rs m [.code lFull.body] (enter (ivA lFull.ps (x0, x1, ())))
theorem lFull.start  (m : Nat) (x0 : Int) (x1 : Int) : lFull.go  (m + 1) x0 x1 =
  lFull.l1  m x0 x1 (0 : Int) (0 : El (Ty.int IntKind.i64)) ([] : List (El TKey)) := by kernel_rfl
theorem lFull.s1  (m : Nat) (x0 : Int) (x1 : Int) (x2 : Int) (x3 : Int) (x4 : List (El TKey)) : lFull.l1  (m + 1) x0 x1 x2 x3 x4 =
  cond (decide (x2 < (2000 : Int))) (
   test (open.pre ((x3, x4), (x0, Unit.unit))) (
    cond (bne (openE (x3, x4)) (0 : Int)) (
     some ((.c (.v (.bool false))), [])) (
     cond (bne (openI (x3, x4)) (IntKind.i64.wrap (x2 + (1 : Int)))) (
      some ((.c (.v (.bool false))), [])) (
      lFull.l1  m x0 x1 (IntKind.i64.wrap (x2 + (1 : Int))) ((openB (x3, x4) x0)).1 ((openB (x3, x4) x0)).2)))) (
   test (open.pre ((x3, x4), (x0, Unit.unit))) (
    test (close.pre (((openB (x3, x4) x0)), ((IntKind.i64.wrap ((1 : Int) + (IntKind.i64.wrap (Int.tmod (IntKind.u64.wrap x1) (2000 : Int))))), Unit.unit))) (
     test (open.pre (((closeB ((openB (x3, x4) x0)) (IntKind.i64.wrap ((1 : Int) + (IntKind.i64.wrap (Int.tmod (IntKind.u64.wrap x1) (2000 : Int))))))), ((IntKind.i64.wrap (x0 + (1 : Int))), Unit.unit))) (
      cond ((openE (x3, x4)) == (6 : Int)) (
       cond ((closeE ((openB (x3, x4) x0)) (IntKind.i64.wrap ((1 : Int) + (IntKind.i64.wrap (Int.tmod (IntKind.u64.wrap x1) (2000 : Int)))))) == (0 : Int)) (
        cond ((closeI ((openB (x3, x4) x0)) (IntKind.i64.wrap ((1 : Int) + (IntKind.i64.wrap (Int.tmod (IntKind.u64.wrap x1) (2000 : Int)))))) == x0) (
         cond ((openE ((closeB ((openB (x3, x4) x0)) (IntKind.i64.wrap ((1 : Int) + (IntKind.i64.wrap (Int.tmod (IntKind.u64.wrap x1) (2000 : Int)))))))) == (0 : Int)) (
          cond ((openI ((closeB ((openB (x3, x4) x0)) (IntKind.i64.wrap ((1 : Int) + (IntKind.i64.wrap (Int.tmod (IntKind.u64.wrap x1) (2000 : Int)))))))) == (2001 : Int)) (
           test (count.pre (((openB ((closeB ((openB (x3, x4) x0)) (IntKind.i64.wrap ((1 : Int) + (IntKind.i64.wrap (Int.tmod (IntKind.u64.wrap x1) (2000 : Int))))))) (IntKind.i64.wrap (x0 + (1 : Int))))), (x0, Unit.unit))) (
            cond ((countI ((openB ((closeB ((openB (x3, x4) x0)) (IntKind.i64.wrap ((1 : Int) + (IntKind.i64.wrap (Int.tmod (IntKind.u64.wrap x1) (2000 : Int))))))) (IntKind.i64.wrap (x0 + (1 : Int))))) x0) == (1999 : Int)) (
             test (drop.pre (((openB ((closeB ((openB (x3, x4) x0)) (IntKind.i64.wrap ((1 : Int) + (IntKind.i64.wrap (Int.tmod (IntKind.u64.wrap x1) (2000 : Int))))))) (IntKind.i64.wrap (x0 + (1 : Int))))), (x0, Unit.unit))) (
              cond ((countI ((openB ((closeB ((openB (x3, x4) x0)) (IntKind.i64.wrap ((1 : Int) + (IntKind.i64.wrap (Int.tmod (IntKind.u64.wrap x1) (2000 : Int))))))) (IntKind.i64.wrap (x0 + (1 : Int))))) x0) == (1999 : Int)) (
               test (len.pre (((dropB ((openB ((closeB ((openB (x3, x4) x0)) (IntKind.i64.wrap ((1 : Int) + (IntKind.i64.wrap (Int.tmod (IntKind.u64.wrap x1) (2000 : Int))))))) (IntKind.i64.wrap (x0 + (1 : Int))))) x0)), Unit.unit)) (
                cond (((List.length ((dropB ((openB ((closeB ((openB (x3, x4) x0)) (IntKind.i64.wrap ((1 : Int) + (IntKind.i64.wrap (Int.tmod (IntKind.u64.wrap x1) (2000 : Int))))))) (IntKind.i64.wrap (x0 + (1 : Int))))) x0)).2) : Int) == (1 : Int)) (
                 some ((.c (.v (.bool true))), [])) (
                 some ((.c (.v (.bool false))), [])))) (
               some ((.c (.v (.bool false))), [])))) (
             some ((.c (.v (.bool false))), [])))) (
           some ((.c (.v (.bool false))), []))) (
          some ((.c (.v (.bool false))), []))) (
         some ((.c (.v (.bool false))), []))) (
        some ((.c (.v (.bool false))), []))) (
       some ((.c (.v (.bool false))), [])))))) := by kernel_rfl
theorem lFull.run_eq  (m : Nat) (x0 : Int) (x1 : Int) : run (lFull.cfg ) Try.f5.ntmps Try.f5.results.toList m [.code (bodyOf Try.f5)] (enter (ivA lFull.ps (x0, x1, ()))) = lFull.go  m x0 x1 := by kernel_rfl
theorem lFull.ret  (hs : SpecsOK Try.prog (lFull.specs )) (ho : OSpecsOK Try.prog (lFull.ospecs )) (x0 : Int) (x1 : Int) {m : Nat} {r : IV} (h : lFull.go  m x0 x1 = some (r, [])) : VE.Returns Try.prog 5 (ivA lFull.ps (x0, x1, ())) r :=
  returns_of_run (cfg := lFull.cfg ) (cfgOK_of mixed tab_ok hs ho) rfl Try.func5 (body_some (by kernel_rfl)) (Nat.le_of_ble_eq_true (by kernel_rfl)) ((lFull.run_eq  m x0 x1).trans h)
abbrev lFull.Law : Prop := ∀ (x0 : Int) (x1 : Int), lFull.pre (x0, x1, ()) = true → VE.Returns Try.prog 5 (ivA lFull.ps (x0, x1, ())) (lFull.res (x0, x1, ()))
theorem lFull.mkR (H : ∀ (x0 : Int) (x1 : Int), lFull.pre (x0, x1, ()) = true → VE.Returns Try.prog 5 (ivA lFull.ps (x0, x1, ())) (lFull.res (x0, x1, ()))) : SpecOK Try.prog 5 lFull.sp :=
  specOf_ret Try.func5 (by kernel_rfl) (by kernel_rfl) fun (x : Int × Int × Unit) hx => H (x.1) (x.2.1) hx
theorem lFull.mk  (hs : SpecsOK Try.prog (lFull.specs )) (ho : OSpecsOK Try.prog (lFull.ospecs )) (H : ∀ (x0 : Int) (x1 : Int), lFull.pre (x0, x1, ()) = true → ∃ m, lFull.go  m x0 x1 = some (lFull.res (x0, x1, ()), [])) : SpecOK Try.prog 5 lFull.sp :=
  lFull.mkR fun x0 x1 hx => (H x0 x1 hx).elim fun _ hm => lFull.ret  hs ho x0 x1 hm

/-! ### triage/triagelaw24.TicketPlays -/
abbrev lPlays.ps : List AK := [.d false (.sl TKey)]
def lPlays.pre : ElA lPlays.ps → Bool := fun (x : (List (El TKey)) × Unit) => fits (.sl TKey) (x.1) && (true)
def lPlays.res : ElA lPlays.ps → IV := fun (x : (List (El TKey)) × Unit) => (fun _ => vb true) x.1
def lPlays.sp : ISpec := spOf lPlays.ps lPlays.pre lPlays.res
abbrev lPlays.OK : Prop := SpecOK Try.prog 6 lPlays.sp
noncomputable def lPlays.body : Code := bodyOf Try.f6
noncomputable def lPlays.rs : List ResultVar := Try.f6.results.toList
def lPlays.live : List (Nat × Live) := [(5, ⟨[(3, .plain), (4, .plain), (27, .sl TKey), (28, .plain), (29, .plain)], [(1541, [.arr 35 TKey, .plain]), (46145536, [.plain, .arr 54 TKey])]⟩)]
noncomputable def lPlays.specs  : List (Nat × (List Bool × ISpec)) := [(8, ([], awake.sp)), (20, ([], ofR.sp)), (21, ([], countR.sp)), (22, ([], sameT.sp))]
noncomputable def lPlays.ospecs  : List (Nat × OS) := [(9, ⟨[], [], new.sp⟩), (10, ⟨[some (.obj [.plain, .arr 54 TKey])], [], open.sp⟩), (11, ⟨[some (.obj [.plain, .arr 54 TKey])], [], close.sp⟩), (13, ⟨[some (.obj [.plain, .arr 54 TKey])], [], of.sp⟩), (15, ⟨[some (.obj [.plain, .arr 54 TKey])], [], drop.sp⟩), (16, ⟨[some (.obj [.plain, .arr 54 TKey])], [], count.sp⟩), (14, ⟨[some (.obj [.plain, .arr 54 TKey])], [], len.sp⟩), (12, ⟨[some (.obj [.plain, .arr 54 TKey])], [], all.sp⟩), (19, ⟨[some (.obj [.arr 35 TKey, .plain])], [], openR.sp⟩), (17, ⟨[some (.obj [.arr 35 TKey, .plain])], [], closeR.sp⟩), (18, ⟨[some (.obj [.arr 35 TKey, .plain])], [], dropR.sp⟩)]
noncomputable def lPlays.cfg  : Cfg := ⟨lkp tab, lkp (lPlays.specs ), lkp lPlays.live, ⟨lkp (lPlays.ospecs ), [], none, false⟩⟩
noncomputable def lPlays.l1  (m : Nat) (x0 : List (El TKey)) (x1 : Int) (x2 : Int) (x3 : Int) (x4 : List (El TKey)) (x5 : Int) (x6 : List (El TKey)) : R := run (lPlays.cfg ) 151 lPlays.rs m ((todoR 5 lPlays.body []).getD []) ⟨ofList (.c .junk) [(3, (.c (.ref 46145536 0))), (4, (.c (.ref 1541 0))), (27, (.c (.sl TKey x0))), (28, (.c (.v (.int .i64 x1)))), (29, (.c (.v (.int .i64 x2))))], ofList none [(1541, some (.cells 47 [(.sref 325248), (.v (.int .i64 x3))])), (325248, some (.arr 35 TKey x4 false)), (46145536, some (.cells 52 [(.v (.int .i64 x5)), (.sref 5906756610)])), (5906756610, some (.arr 54 TKey x6 false))], ofList false [(1541, true), (325248, true), (46145536, true), (5906756610, true)]⟩
noncomputable def lPlays.go  (m : Nat) (x0 : (List (El TKey))) : R := run (lPlays.cfg ) 151 lPlays.rs m [.code lPlays.body] (enter (ivA lPlays.ps (x0, ())))
theorem lPlays.start  (m : Nat) (x0 : (List (El TKey))) : lPlays.go  (m + 1) x0 =
  cond (decide (((List.length x0) : Int) > (300 : Int))) (
   some ((.c (.v (.bool true))), [])) (
   lPlays.l1  m x0 ((List.length x0) : Int) (0 : Int) (0 : Int) ([] : List (El TKey)) (0 : El (Ty.int IntKind.i64)) ([] : List (El TKey))) := by kernel_rfl
theorem lPlays.s1  (m : Nat) (x0 : List (El TKey)) (x1 : Int) (x2 : Int) (x3 : Int) (x4 : List (El TKey)) (x5 : Int) (x6 : List (El TKey)) : lPlays.l1  (m + 1) x0 x1 x2 x3 x4 x5 x6 =
  cond (decide (x2 < x1)) (
   test (decide ((0 : Int) ≤ x2)) (
    test (decide (x2 < ((List.length x0) : Int))) (
     cond (((rdEl TKey x0 (Int.toNat x2))).1 == (0 : Int)) (
      test (close.pre ((x5, x6), (((rdEl TKey x0 (Int.toNat x2))).2, Unit.unit))) (
       test (closeR.pre ((x4, x3), (((rdEl TKey x0 (Int.toNat x2))).2, Unit.unit))) (
        cond ((closeI (x5, x6) ((rdEl TKey x0 (Int.toNat x2))).2) == (ofRI (x4, x3) ((rdEl TKey x0 (Int.toNat x2))).2)) (
         test (of.pre (((closeB (x5, x6) ((rdEl TKey x0 (Int.toNat x2))).2)), (((rdEl TKey x0 (Int.toNat x2))).2, Unit.unit))) (
          test (ofR.pre (((closeRB (x4, x3) ((rdEl TKey x0 (Int.toNat x2))).2)), (((rdEl TKey x0 (Int.toNat x2))).2, Unit.unit))) (
           cond (Bool.not ((closeE (x5, x6) ((rdEl TKey x0 (Int.toNat x2))).2) == (cond (ofRB (x4, x3) ((rdEl TKey x0 (Int.toNat x2))).2) (0 : Int) (4 : Int)))) (
            some ((.c (.v (.bool false))), [])) (
            cond (bne (closeI ((closeB (x5, x6) ((rdEl TKey x0 (Int.toNat x2))).2)) ((rdEl TKey x0 (Int.toNat x2))).2) (ofRI ((closeRB (x4, x3) ((rdEl TKey x0 (Int.toNat x2))).2)) ((rdEl TKey x0 (Int.toNat x2))).2)) (
             some ((.c (.v (.bool false))), [])) (
             cond (Bool.not ((hasId ((closeB (x5, x6) ((rdEl TKey x0 (Int.toNat x2))).2)) ((rdEl TKey x0 (Int.toNat x2))).2) == (ofRB ((closeRB (x4, x3) ((rdEl TKey x0 (Int.toNat x2))).2)) ((rdEl TKey x0 (Int.toNat x2))).2))) (
              some ((.c (.v (.bool false))), [])) (
              test (count.pre (((closeB (x5, x6) ((rdEl TKey x0 (Int.toNat x2))).2)), (((rdEl TKey x0 (Int.toNat x2))).2, Unit.unit))) (
               test (countR.pre (((closeRB (x4, x3) ((rdEl TKey x0 (Int.toNat x2))).2)), (((rdEl TKey x0 (Int.toNat x2))).2, Unit.unit))) (
                cond (bne (countI ((closeB (x5, x6) ((rdEl TKey x0 (Int.toNat x2))).2)) ((rdEl TKey x0 (Int.toNat x2))).2) (countRI ((closeRB (x4, x3) ((rdEl TKey x0 (Int.toNat x2))).2)) ((rdEl TKey x0 (Int.toNat x2))).2)) (
                 some ((.c (.v (.bool false))), [])) (
                 test (len.pre (((closeB (x5, x6) ((rdEl TKey x0 (Int.toNat x2))).2)), Unit.unit)) (
                  cond (bne ((List.length ((closeB (x5, x6) ((rdEl TKey x0 (Int.toNat x2))).2)).2) : Int) ((List.length ((closeRB (x4, x3) ((rdEl TKey x0 (Int.toNat x2))).2)).1) : Int)) (
                   some ((.c (.v (.bool false))), [])) (
                   test (all.pre (((closeB (x5, x6) ((rdEl TKey x0 (Int.toNat x2))).2)), Unit.unit)) (
                    test (sameT.pre (((closeB (x5, x6) ((rdEl TKey x0 (Int.toNat x2))).2)).2, (((closeRB (x4, x3) ((rdEl TKey x0 (Int.toNat x2))).2)).1, Unit.unit))) (
                     cond (Bool.not (eqK ((closeB (x5, x6) ((rdEl TKey x0 (Int.toNat x2))).2)).2 ((closeRB (x4, x3) ((rdEl TKey x0 (Int.toNat x2))).2)).1)) (
                      some ((.c (.v (.bool false))), [])) (
                      lPlays.l1  m x0 x1 (IntKind.i64.wrap (x2 + (1 : Int))) ((closeRB (x4, x3) ((rdEl TKey x0 (Int.toNat x2))).2)).2 ((closeRB (x4, x3) ((rdEl TKey x0 (Int.toNat x2))).2)).1 ((closeB (x5, x6) ((rdEl TKey x0 (Int.toNat x2))).2)).1 ((closeB (x5, x6) ((rdEl TKey x0 (Int.toNat x2))).2)).2)))))))))))))) (
         test (of.pre (((closeB (x5, x6) ((rdEl TKey x0 (Int.toNat x2))).2)), (((rdEl TKey x0 (Int.toNat x2))).2, Unit.unit))) (
          test (ofR.pre (((closeRB (x4, x3) ((rdEl TKey x0 (Int.toNat x2))).2)), (((rdEl TKey x0 (Int.toNat x2))).2, Unit.unit))) (
           some ((.c (.v (.bool false))), []))))))) (
      cond (((rdEl TKey x0 (Int.toNat x2))).1 == (1 : Int)) (
       test (drop.pre ((x5, x6), (((rdEl TKey x0 (Int.toNat x2))).2, Unit.unit))) (
        test (dropR.pre ((x4, x3), (((rdEl TKey x0 (Int.toNat x2))).2, Unit.unit))) (
         test (of.pre (((dropB (x5, x6) ((rdEl TKey x0 (Int.toNat x2))).2)), (((rdEl TKey x0 (Int.toNat x2))).2, Unit.unit))) (
          test (ofR.pre (((dropRB (x4, x3) ((rdEl TKey x0 (Int.toNat x2))).2)), (((rdEl TKey x0 (Int.toNat x2))).2, Unit.unit))) (
           cond (Bool.not ((countI (x5, x6) ((rdEl TKey x0 (Int.toNat x2))).2) == (countRI (x4, x3) ((rdEl TKey x0 (Int.toNat x2))).2))) (
            some ((.c (.v (.bool false))), [])) (
            cond (bne (closeI ((dropB (x5, x6) ((rdEl TKey x0 (Int.toNat x2))).2)) ((rdEl TKey x0 (Int.toNat x2))).2) (ofRI ((dropRB (x4, x3) ((rdEl TKey x0 (Int.toNat x2))).2)) ((rdEl TKey x0 (Int.toNat x2))).2)) (
             some ((.c (.v (.bool false))), [])) (
             cond (Bool.not ((hasId ((dropB (x5, x6) ((rdEl TKey x0 (Int.toNat x2))).2)) ((rdEl TKey x0 (Int.toNat x2))).2) == (ofRB ((dropRB (x4, x3) ((rdEl TKey x0 (Int.toNat x2))).2)) ((rdEl TKey x0 (Int.toNat x2))).2))) (
              some ((.c (.v (.bool false))), [])) (
              test (count.pre (((dropB (x5, x6) ((rdEl TKey x0 (Int.toNat x2))).2)), (((rdEl TKey x0 (Int.toNat x2))).2, Unit.unit))) (
               test (countR.pre (((dropRB (x4, x3) ((rdEl TKey x0 (Int.toNat x2))).2)), (((rdEl TKey x0 (Int.toNat x2))).2, Unit.unit))) (
                cond (bne (countI ((dropB (x5, x6) ((rdEl TKey x0 (Int.toNat x2))).2)) ((rdEl TKey x0 (Int.toNat x2))).2) (countRI ((dropRB (x4, x3) ((rdEl TKey x0 (Int.toNat x2))).2)) ((rdEl TKey x0 (Int.toNat x2))).2)) (
                 some ((.c (.v (.bool false))), [])) (
                 test (len.pre (((dropB (x5, x6) ((rdEl TKey x0 (Int.toNat x2))).2)), Unit.unit)) (
                  cond (bne ((List.length ((dropB (x5, x6) ((rdEl TKey x0 (Int.toNat x2))).2)).2) : Int) ((List.length ((dropRB (x4, x3) ((rdEl TKey x0 (Int.toNat x2))).2)).1) : Int)) (
                   some ((.c (.v (.bool false))), [])) (
                   test (all.pre (((dropB (x5, x6) ((rdEl TKey x0 (Int.toNat x2))).2)), Unit.unit)) (
                    test (sameT.pre (((dropB (x5, x6) ((rdEl TKey x0 (Int.toNat x2))).2)).2, (((dropRB (x4, x3) ((rdEl TKey x0 (Int.toNat x2))).2)).1, Unit.unit))) (
                     cond (Bool.not (eqK ((dropB (x5, x6) ((rdEl TKey x0 (Int.toNat x2))).2)).2 ((dropRB (x4, x3) ((rdEl TKey x0 (Int.toNat x2))).2)).1)) (
                      some ((.c (.v (.bool false))), [])) (
                      lPlays.l1  m x0 x1 (IntKind.i64.wrap (x2 + (1 : Int))) ((dropRB (x4, x3) ((rdEl TKey x0 (Int.toNat x2))).2)).2 ((dropRB (x4, x3) ((rdEl TKey x0 (Int.toNat x2))).2)).1 ((dropB (x5, x6) ((rdEl TKey x0 (Int.toNat x2))).2)).1 ((dropB (x5, x6) ((rdEl TKey x0 (Int.toNat x2))).2)).2)))))))))))))))) (
       test (open.pre ((x5, x6), (((rdEl TKey x0 (Int.toNat x2))).2, Unit.unit))) (
        test (openR.pre ((x4, x3), (((rdEl TKey x0 (Int.toNat x2))).2, Unit.unit))) (
         cond ((openI (x5, x6)) == (openRI (x4, x3))) (
          test (of.pre (((openB (x5, x6) ((rdEl TKey x0 (Int.toNat x2))).2)), (((rdEl TKey x0 (Int.toNat x2))).2, Unit.unit))) (
           test (ofR.pre (((openRB (x4, x3) ((rdEl TKey x0 (Int.toNat x2))).2)), (((rdEl TKey x0 (Int.toNat x2))).2, Unit.unit))) (
            cond (Bool.not ((openE (x5, x6)) == (openRE (x4, x3)))) (
             some ((.c (.v (.bool false))), [])) (
             cond (bne (closeI ((openB (x5, x6) ((rdEl TKey x0 (Int.toNat x2))).2)) ((rdEl TKey x0 (Int.toNat x2))).2) (ofRI ((openRB (x4, x3) ((rdEl TKey x0 (Int.toNat x2))).2)) ((rdEl TKey x0 (Int.toNat x2))).2)) (
              some ((.c (.v (.bool false))), [])) (
              cond (Bool.not ((hasId ((openB (x5, x6) ((rdEl TKey x0 (Int.toNat x2))).2)) ((rdEl TKey x0 (Int.toNat x2))).2) == (ofRB ((openRB (x4, x3) ((rdEl TKey x0 (Int.toNat x2))).2)) ((rdEl TKey x0 (Int.toNat x2))).2))) (
               some ((.c (.v (.bool false))), [])) (
               test (count.pre (((openB (x5, x6) ((rdEl TKey x0 (Int.toNat x2))).2)), (((rdEl TKey x0 (Int.toNat x2))).2, Unit.unit))) (
                test (countR.pre (((openRB (x4, x3) ((rdEl TKey x0 (Int.toNat x2))).2)), (((rdEl TKey x0 (Int.toNat x2))).2, Unit.unit))) (
                 cond (bne (countI ((openB (x5, x6) ((rdEl TKey x0 (Int.toNat x2))).2)) ((rdEl TKey x0 (Int.toNat x2))).2) (countRI ((openRB (x4, x3) ((rdEl TKey x0 (Int.toNat x2))).2)) ((rdEl TKey x0 (Int.toNat x2))).2)) (
                  some ((.c (.v (.bool false))), [])) (
                  test (len.pre (((openB (x5, x6) ((rdEl TKey x0 (Int.toNat x2))).2)), Unit.unit)) (
                   cond (bne ((List.length ((openB (x5, x6) ((rdEl TKey x0 (Int.toNat x2))).2)).2) : Int) ((List.length ((openRB (x4, x3) ((rdEl TKey x0 (Int.toNat x2))).2)).1) : Int)) (
                    some ((.c (.v (.bool false))), [])) (
                    test (all.pre (((openB (x5, x6) ((rdEl TKey x0 (Int.toNat x2))).2)), Unit.unit)) (
                     test (sameT.pre (((openB (x5, x6) ((rdEl TKey x0 (Int.toNat x2))).2)).2, (((openRB (x4, x3) ((rdEl TKey x0 (Int.toNat x2))).2)).1, Unit.unit))) (
                      cond (Bool.not (eqK ((openB (x5, x6) ((rdEl TKey x0 (Int.toNat x2))).2)).2 ((openRB (x4, x3) ((rdEl TKey x0 (Int.toNat x2))).2)).1)) (
                       some ((.c (.v (.bool false))), [])) (
                       lPlays.l1  m x0 x1 (IntKind.i64.wrap (x2 + (1 : Int))) ((openRB (x4, x3) ((rdEl TKey x0 (Int.toNat x2))).2)).2 ((openRB (x4, x3) ((rdEl TKey x0 (Int.toNat x2))).2)).1 ((openB (x5, x6) ((rdEl TKey x0 (Int.toNat x2))).2)).1 ((openB (x5, x6) ((rdEl TKey x0 (Int.toNat x2))).2)).2)))))))))))))) (
          test (of.pre (((openB (x5, x6) ((rdEl TKey x0 (Int.toNat x2))).2)), (((rdEl TKey x0 (Int.toNat x2))).2, Unit.unit))) (
           test (ofR.pre (((openRB (x4, x3) ((rdEl TKey x0 (Int.toNat x2))).2)), (((rdEl TKey x0 (Int.toNat x2))).2, Unit.unit))) (
            some ((.c (.v (.bool false))), []))))))))))) (
   some ((.c (.v (.bool true))), [])) := by kernel_rfl
theorem lPlays.run_eq  (m : Nat) (x0 : (List (El TKey))) : run (lPlays.cfg ) Try.f6.ntmps Try.f6.results.toList m [.code (bodyOf Try.f6)] (enter (ivA lPlays.ps (x0, ()))) = lPlays.go  m x0 := by kernel_rfl
theorem lPlays.ret  (hs : SpecsOK Try.prog (lPlays.specs )) (ho : OSpecsOK Try.prog (lPlays.ospecs )) (x0 : (List (El TKey))) {m : Nat} {r : IV} (h : lPlays.go  m x0 = some (r, [])) : VE.Returns Try.prog 6 (ivA lPlays.ps (x0, ())) r :=
  returns_of_run (cfg := lPlays.cfg ) (cfgOK_of mixed tab_ok hs ho) rfl Try.func6 (body_some (by kernel_rfl)) (Nat.le_of_ble_eq_true (by kernel_rfl)) ((lPlays.run_eq  m x0).trans h)
abbrev lPlays.Law : Prop := ∀ (x0 : (List (El TKey))), lPlays.pre (x0, ()) = true → VE.Returns Try.prog 6 (ivA lPlays.ps (x0, ())) (lPlays.res (x0, ()))
theorem lPlays.mkR (H : ∀ (x0 : (List (El TKey))), lPlays.pre (x0, ()) = true → VE.Returns Try.prog 6 (ivA lPlays.ps (x0, ())) (lPlays.res (x0, ()))) : SpecOK Try.prog 6 lPlays.sp :=
  specOf_ret Try.func6 (by kernel_rfl) (by kernel_rfl) fun (x : (List (El TKey)) × Unit) hx => H (x.1) hx
theorem lPlays.mk  (hs : SpecsOK Try.prog (lPlays.specs )) (ho : OSpecsOK Try.prog (lPlays.ospecs )) (H : ∀ (x0 : (List (El TKey))), lPlays.pre (x0, ()) = true → ∃ m, lPlays.go  m x0 = some (lPlays.res (x0, ()), [])) : SpecOK Try.prog 6 lPlays.sp :=
  lPlays.mkR fun x0 hx => (H x0 hx).elim fun _ hm => lPlays.ret  hs ho x0 hm

/-! ### triage/triagelaw24.TicketOrder -/
abbrev lOrder.ps : List AK := [.d false (.sl (.int .i64)), .d false (.sl (.int .i64))]
def lOrder.pre : ElA lOrder.ps → Bool := fun (x : (List Int) × (List Int) × Unit) => fits (.sl (.int .i64)) (x.1) && (fits (.sl (.int .i64)) (x.2.1) && (true))
def lOrder.res : ElA lOrder.ps → IV := fun (x : (List Int) × (List Int) × Unit) => (fun _ _ => vb true) x.1 x.2.1
def lOrder.sp : ISpec := spOf lOrder.ps lOrder.pre lOrder.res
abbrev lOrder.OK : Prop := SpecOK Try.prog 3 lOrder.sp
noncomputable def lOrder.body : Code := bodyOf Try.f3
noncomputable def lOrder.rs : List ResultVar := Try.f3.results.toList
def lOrder.live : List (Nat × Live) := [(24, ⟨[(5, .plain), (10, .plain), (16, .sl TKey), (17, .plain), (104, .sl (.int .i64)), (105, .plain), (106, .plain)], [(5633, []), (46145536, [.plain, .arr 54 TKey])]⟩), (13, ⟨[(0, .sl (.int .i64)), (5, .plain), (10, .plain), (57, .sl (.int .i64)), (58, .plain), (59, .plain)], [(5633, []), (46145536, [.plain, .arr 54 TKey])]⟩), (5, ⟨[(0, .sl (.int .i64)), (1, .sl (.int .i64)), (5, .plain), (34, .sl (.int .i64)), (35, .plain), (36, .plain)], [(46145536, [.plain, .arr 54 TKey])]⟩)]
noncomputable def lOrder.specs  : List (Nat × (List Bool × ISpec)) := [(8, ([], awake.sp))]
noncomputable def lOrder.ospecs  : List (Nat × OS) := [(9, ⟨[], [], new.sp⟩), (10, ⟨[some (.obj [.plain, .arr 54 TKey])], [], open.sp⟩), (11, ⟨[some (.obj [.plain, .arr 54 TKey])], [], close.sp⟩), (13, ⟨[some (.obj [.plain, .arr 54 TKey])], [], of.sp⟩), (12, ⟨[some (.obj [.plain, .arr 54 TKey])], [], all.sp⟩), (14, ⟨[some (.obj [.plain, .arr 54 TKey])], [], len.sp⟩)]
noncomputable def lOrder.cfg  : Cfg := ⟨lkp tab, lkp (lOrder.specs ), lkp lOrder.live, ⟨lkp (lOrder.ospecs ), [], none, false⟩⟩
noncomputable def lOrder.l1  (m : Nat) (x0 : List Int) (x1 : List Int) (x2 : List Int) (x3 : Int) (x4 : Int) (x5 : Int) (x6 : List (El TKey)) : R := run (lOrder.cfg ) 171 lOrder.rs m ((todoR 5 lOrder.body []).getD []) ⟨ofList (.c .junk) [(0, (.c (.sl (.int .i64) x0))), (1, (.c (.sl (.int .i64) x1))), (5, (.c (.ref 46145536 0))), (34, (.c (.sl (.int .i64) x2))), (35, (.c (.v (.int .i64 x3)))), (36, (.c (.v (.int .i64 x4))))], ofList none [(46145536, some (.cells 52 [(.v (.int .i64 x5)), (.sref 5906756610)])), (5906756610, some (.arr 54 TKey x6 false))], ofList false [(46145536, true), (5906756610, true)]⟩
noncomputable def lOrder.l2  (m : Nat) (x0 : List Int) (x1 : List Int) (x2 : Int) (x3 : Int) (x4 : List (Int × Int × Nat)) (x5 : Nat) (x6 : Int) (x7 : List (El TKey)) : R := run (lOrder.cfg ) 171 lOrder.rs m ((todoR 13 lOrder.body []).getD []) ⟨ofList (.c .junk) [(0, (.c (.sl (.int .i64) x0))), (5, (.c (.ref 46145536 0))), (10, (.c (.mref 5633))), (57, (.c (.sl (.int .i64) x1))), (58, (.c (.v (.int .i64 x2)))), (59, (.c (.v (.int .i64 x3))))], ofList none [(5633, some (.map (.int .i64) (.int .i64) x4 x5)), (46145536, some (.cells 52 [(.v (.int .i64 x6)), (.sref 5906756610)])), (5906756610, some (.arr 54 TKey x7 false))], ofList false [(5633, true), (46145536, true), (5906756610, true)]⟩
noncomputable def lOrder.l3  (m : Nat) (x0 : List (El TKey)) (x1 : Int) (x2 : List Int) (x3 : Int) (x4 : Int) (x5 : List (Int × Int × Nat)) (x6 : Nat) (x7 : Int) (x8 : List (El TKey)) : R := run (lOrder.cfg ) 171 lOrder.rs m ((todoR 24 lOrder.body []).getD []) ⟨ofList (.c .junk) [(5, (.c (.ref 46145536 0))), (10, (.c (.mref 5633))), (16, (.c (.sl TKey x0))), (17, (.c (.v (.int .i64 x1)))), (104, (.c (.sl (.int .i64) x2))), (105, (.c (.v (.int .i64 x3)))), (106, (.c (.v (.int .i64 x4))))], ofList none [(5633, some (.map (.int .i64) (.int .i64) x5 x6)), (46145536, some (.cells 52 [(.v (.int .i64 x7)), (.sref 5906756610)])), (5906756610, some (.arr 54 TKey x8 false))], ofList false [(5633, true), (46145536, true), (5906756610, true)]⟩
noncomputable def lOrder.go  (m : Nat) (x0 : (List Int)) (x1 : (List Int)) : R := run (lOrder.cfg ) 171 lOrder.rs m [.code lOrder.body] (enter (ivA lOrder.ps (x0, x1, ())))
theorem lOrder.start  (m : Nat) (x0 : (List Int)) (x1 : (List Int)) : lOrder.go  (m + 1) x0 x1 =
  cond (decide (((List.length x0) : Int) > (60 : Int))) (
   some ((.c (.v (.bool true))), [])) (
   cond (decide (((List.length x1) : Int) > (60 : Int))) (
    some ((.c (.v (.bool true))), [])) (
    lOrder.l1  m x0 x1 x0 ((List.length x0) : Int) (0 : Int) (0 : El (Ty.int IntKind.i64)) ([] : List (El TKey)))) := by kernel_rfl
theorem lOrder.s1  (m : Nat) (x0 : List Int) (x1 : List Int) (x2 : List Int) (x3 : Int) (x4 : Int) (x5 : Int) (x6 : List (El TKey)) : lOrder.l1  (m + 1) x0 x1 x2 x3 x4 x5 x6 =
  cond (decide (x4 < x3)) (
   test (decide ((0 : Int) ≤ x4)) (
    test (decide (x4 < ((List.length x2) : Int))) (
     test (open.pre ((x5, x6), ((rdEl (.int .i64) x2 (Int.toNat x4)), Unit.unit))) (
      cond (bne (openE (x5, x6)) (0 : Int)) (
       some ((.c (.v (.bool false))), [])) (
       cond (bne (openI (x5, x6)) (IntKind.i64.wrap (x4 + (1 : Int)))) (
        some ((.c (.v (.bool false))), [])) (
        lOrder.l1  m x0 x1 x2 x3 (IntKind.i64.wrap (x4 + (1 : Int))) ((openB (x5, x6) (rdEl (.int .i64) x2 (Int.toNat x4)))).1 ((openB (x5, x6) (rdEl (.int .i64) x2 (Int.toNat x4)))).2)))))) (
   lOrder.l2  m x0 x1 ((List.length x1) : Int) (0 : Int) [] 0 x5 x6) := by kernel_rfl
theorem lOrder.s2  (m : Nat) (x0 : List Int) (x1 : List Int) (x2 : Int) (x3 : Int) (x4 : List (Int × Int × Nat)) (x5 : Nat) (x6 : Int) (x7 : List (El TKey)) : lOrder.l2  (m + 1) x0 x1 x2 x3 x4 x5 x6 x7 =
  cond (decide (x3 < x2)) (
   test (decide ((0 : Int) ≤ x3)) (
    test (decide (x3 < ((List.length x1) : Int))) (
     test (close.pre ((x6, x7), ((rdEl (.int .i64) x1 (Int.toNat x3)), Unit.unit))) (
      cond (decide ((rdEl (.int .i64) x1 (Int.toNat x3)) ≥ (1 : Int))) (
       cond (decide ((rdEl (.int .i64) x1 (Int.toNat x3)) ≤ ((List.length x0) : Int))) (
        cond (Bool.not (((closeE (x6, x7) (rdEl (.int .i64) x1 (Int.toNat x3))) == (0 : Int)) == ((getE (.int .i64) (.int .i64) (0 : Int) (rdEl (.int .i64) x1 (Int.toNat x3)) x4) == (0 : Int)))) (
         some ((.c (.v (.bool false))), [])) (
         cond ((getE (.int .i64) (.int .i64) (0 : Int) (rdEl (.int .i64) x1 (Int.toNat x3)) x4) == (0 : Int)) (
          test (decide ((0 : Int) ≤ (IntKind.i64.wrap ((rdEl (.int .i64) x1 (Int.toNat x3)) - (1 : Int))))) (
           test (decide ((IntKind.i64.wrap ((rdEl (.int .i64) x1 (Int.toNat x3)) - (1 : Int))) < ((List.length x0) : Int))) (
            cond (bne (closeI (x6, x7) (rdEl (.int .i64) x1 (Int.toNat x3))) (rdEl (.int .i64) x0 (Int.toNat (IntKind.i64.wrap ((rdEl (.int .i64) x1 (Int.toNat x3)) - (1 : Int)))))) (
             some ((.c (.v (.bool false))), [])) (
             lOrder.l2  m x0 x1 x2 (IntKind.i64.wrap (x3 + (1 : Int))) (setE (.int .i64) (.int .i64) x5 (rdEl (.int .i64) x1 (Int.toNat x3)) (1 : Int) x4) (clockE (.int .i64) (.int .i64) x5 (rdEl (.int .i64) x1 (Int.toNat x3)) x4) ((closeB (x6, x7) (rdEl (.int .i64) x1 (Int.toNat x3)))).1 ((closeB (x6, x7) (rdEl (.int .i64) x1 (Int.toNat x3)))).2)))) (
          lOrder.l2  m x0 x1 x2 (IntKind.i64.wrap (x3 + (1 : Int))) (setE (.int .i64) (.int .i64) x5 (rdEl (.int .i64) x1 (Int.toNat x3)) (1 : Int) x4) (clockE (.int .i64) (.int .i64) x5 (rdEl (.int .i64) x1 (Int.toNat x3)) x4) ((closeB (x6, x7) (rdEl (.int .i64) x1 (Int.toNat x3)))).1 ((closeB (x6, x7) (rdEl (.int .i64) x1 (Int.toNat x3)))).2))) (
        cond (Bool.not (((closeE (x6, x7) (rdEl (.int .i64) x1 (Int.toNat x3))) == (0 : Int)) == false)) (
         some ((.c (.v (.bool false))), [])) (
         lOrder.l2  m x0 x1 x2 (IntKind.i64.wrap (x3 + (1 : Int))) (setE (.int .i64) (.int .i64) x5 (rdEl (.int .i64) x1 (Int.toNat x3)) (1 : Int) x4) (clockE (.int .i64) (.int .i64) x5 (rdEl (.int .i64) x1 (Int.toNat x3)) x4) ((closeB (x6, x7) (rdEl (.int .i64) x1 (Int.toNat x3)))).1 ((closeB (x6, x7) (rdEl (.int .i64) x1 (Int.toNat x3)))).2))) (
       cond (Bool.not (((closeE (x6, x7) (rdEl (.int .i64) x1 (Int.toNat x3))) == (0 : Int)) == false)) (
        some ((.c (.v (.bool false))), [])) (
        lOrder.l2  m x0 x1 x2 (IntKind.i64.wrap (x3 + (1 : Int))) (setE (.int .i64) (.int .i64) x5 (rdEl (.int .i64) x1 (Int.toNat x3)) (1 : Int) x4) (clockE (.int .i64) (.int .i64) x5 (rdEl (.int .i64) x1 (Int.toNat x3)) x4) ((closeB (x6, x7) (rdEl (.int .i64) x1 (Int.toNat x3)))).1 ((closeB (x6, x7) (rdEl (.int .i64) x1 (Int.toNat x3)))).2)))))) (
   test (all.pre ((x6, x7), Unit.unit)) (
    lOrder.l3  m x7 (0 : Int) x0 ((List.length x0) : Int) (0 : Int) x4 x5 x6 x7)) := by kernel_rfl
theorem lOrder.s3  (m : Nat) (x0 : List (El TKey)) (x1 : Int) (x2 : List Int) (x3 : Int) (x4 : Int) (x5 : List (Int × Int × Nat)) (x6 : Nat) (x7 : Int) (x8 : List (El TKey)) : lOrder.l3  (m + 1) x0 x1 x2 x3 x4 x5 x6 x7 x8 =
  cond (decide (x4 < x3)) (
   test (decide ((0 : Int) ≤ x4)) (
    test (decide (x4 < ((List.length x2) : Int))) (
     cond (bne (getE (.int .i64) (.int .i64) (0 : Int) (IntKind.i64.wrap (x4 + (1 : Int))) x5) (0 : Int)) (
      test (of.pre ((x7, x8), ((IntKind.i64.wrap (x4 + (1 : Int))), Unit.unit))) (
       cond (hasId (x7, x8) (IntKind.i64.wrap (x4 + (1 : Int)))) (
        some ((.c (.v (.bool false))), [])) (
        lOrder.l3  m x0 x1 x2 x3 (IntKind.i64.wrap (x4 + (1 : Int))) x5 x6 x7 x8))) (
      test (of.pre ((x7, x8), ((IntKind.i64.wrap (x4 + (1 : Int))), Unit.unit))) (
       cond (Bool.not (hasId (x7, x8) (IntKind.i64.wrap (x4 + (1 : Int))))) (
        some ((.c (.v (.bool false))), [])) (
        cond (bne (closeI (x7, x8) (IntKind.i64.wrap (x4 + (1 : Int)))) (rdEl (.int .i64) x2 (Int.toNat x4))) (
         some ((.c (.v (.bool false))), [])) (
         cond (decide (x1 ≥ ((List.length x0) : Int))) (
          some ((.c (.v (.bool false))), [])) (
          test (decide ((0 : Int) ≤ x1)) (
           test (decide (x1 < ((List.length x0) : Int))) (
            cond (Bool.not ((((rdEl TKey x0 (Int.toNat x1))).1 == (IntKind.i64.wrap (x4 + (1 : Int)))) && ((((rdEl TKey x0 (Int.toNat x1))).2 == (rdEl (.int .i64) x2 (Int.toNat x4))) && true))) (
             some ((.c (.v (.bool false))), [])) (
             lOrder.l3  m x0 (IntKind.i64.wrap (x1 + (1 : Int))) x2 x3 (IntKind.i64.wrap (x4 + (1 : Int))) x5 x6 x7 x8))))))))))) (
   cond (x1 == ((List.length x0) : Int)) (
    test (len.pre ((x7, x8), Unit.unit)) (
     cond (x1 == ((List.length x8) : Int)) (
      some ((.c (.v (.bool true))), [])) (
      some ((.c (.v (.bool false))), [])))) (
    some ((.c (.v (.bool false))), []))) := by kernel_rfl
theorem lOrder.run_eq  (m : Nat) (x0 : (List Int)) (x1 : (List Int)) : run (lOrder.cfg ) Try.f3.ntmps Try.f3.results.toList m [.code (bodyOf Try.f3)] (enter (ivA lOrder.ps (x0, x1, ()))) = lOrder.go  m x0 x1 := by kernel_rfl
theorem lOrder.ret  (hs : SpecsOK Try.prog (lOrder.specs )) (ho : OSpecsOK Try.prog (lOrder.ospecs )) (x0 : (List Int)) (x1 : (List Int)) {m : Nat} {r : IV} (h : lOrder.go  m x0 x1 = some (r, [])) : VE.Returns Try.prog 3 (ivA lOrder.ps (x0, x1, ())) r :=
  returns_of_run (cfg := lOrder.cfg ) (cfgOK_of mixed tab_ok hs ho) rfl Try.func3 (body_some (by kernel_rfl)) (Nat.le_of_ble_eq_true (by kernel_rfl)) ((lOrder.run_eq  m x0 x1).trans h)
abbrev lOrder.Law : Prop := ∀ (x0 : (List Int)) (x1 : (List Int)), lOrder.pre (x0, x1, ()) = true → VE.Returns Try.prog 3 (ivA lOrder.ps (x0, x1, ())) (lOrder.res (x0, x1, ()))
theorem lOrder.mkR (H : ∀ (x0 : (List Int)) (x1 : (List Int)), lOrder.pre (x0, x1, ()) = true → VE.Returns Try.prog 3 (ivA lOrder.ps (x0, x1, ())) (lOrder.res (x0, x1, ()))) : SpecOK Try.prog 3 lOrder.sp :=
  specOf_ret Try.func3 (by kernel_rfl) (by kernel_rfl) fun (x : (List Int) × (List Int) × Unit) hx => H (x.1) (x.2.1) hx
theorem lOrder.mk  (hs : SpecsOK Try.prog (lOrder.specs )) (ho : OSpecsOK Try.prog (lOrder.ospecs )) (H : ∀ (x0 : (List Int)) (x1 : (List Int)), lOrder.pre (x0, x1, ()) = true → ∃ m, lOrder.go  m x0 x1 = some (lOrder.res (x0, x1, ()), [])) : SpecOK Try.prog 3 lOrder.sp :=
  lOrder.mkR fun x0 x1 hx => (H x0 x1 hx).elim fun _ hm => lOrder.ret  hs ho x0 x1 hm

/-! ### triage/triagelaw24.TicketNever -/
abbrev lNever.ps : List AK := [.d false (.sl TKey)]
def lNever.pre : ElA lNever.ps → Bool := fun (x : (List (El TKey)) × Unit) => fits (.sl TKey) (x.1) && (true)
def lNever.res : ElA lNever.ps → IV := fun (x : (List (El TKey)) × Unit) => (fun _ => vb true) x.1
def lNever.sp : ISpec := spOf lNever.ps lNever.pre lNever.res
abbrev lNever.OK : Prop := SpecOK Try.prog 4 lNever.sp
noncomputable def lNever.body : Code := bodyOf Try.f4
noncomputable def lNever.rs : List ResultVar := Try.f4.results.toList
def lNever.live : List (Nat × Live) := [(35, ⟨[(3, .plain), (4, .plain), (5, .plain), (15, .plain), (23, .sl TKey), (24, .plain), (25, .plain), (112, .plain)], [(2561, []), (46145536, [.plain, .arr 54 TKey])]⟩), (26, ⟨[(3, .plain), (4, .plain), (5, .plain), (8, .plain), (11, .plain), (12, .plain), (23, .sl TKey), (24, .plain), (25, .plain)], [(2561, []), (46145536, [.plain, .arr 54 TKey])]⟩), (7, ⟨[(3, .plain), (4, .plain), (5, .plain), (23, .sl TKey), (24, .plain), (25, .plain)], [(2561, []), (46145536, [.plain, .arr 54 TKey])]⟩)]
noncomputable def lNever.specs  : List (Nat × (List Bool × ISpec)) := [(8, ([], awake.sp))]
noncomputable def lNever.ospecs  : List (Nat × OS) := [(9, ⟨[], [], new.sp⟩), (10, ⟨[some (.obj [.plain, .arr 54 TKey])], [], open.sp⟩), (11, ⟨[some (.obj [.plain, .arr 54 TKey])], [], close.sp⟩), (15, ⟨[some (.obj [.plain, .arr 54 TKey])], [], drop.sp⟩), (16, ⟨[some (.obj [.plain, .arr 54 TKey])], [], count.sp⟩), (14, ⟨[some (.obj [.plain, .arr 54 TKey])], [], len.sp⟩)]
noncomputable def lNever.cfg  : Cfg := ⟨lkp tab, lkp (lNever.specs ), lkp lNever.live, ⟨lkp (lNever.ospecs ), [], none, false⟩⟩
noncomputable def lNever.l1  (m : Nat) (x0 : Int) (x1 : List (El TKey)) (x2 : Int) (x3 : Int) (x4 : List (Int × Int × Nat)) (x5 : Nat) (x6 : Int) (x7 : List (El TKey)) : R := run (lNever.cfg ) 133 lNever.rs m ((todoR 7 lNever.body []).getD []) ⟨ofList (.c .junk) [(3, (.c (.ref 46145536 0))), (4, (.c (.v (.int .i64 x0)))), (5, (.c (.mref 2561))), (23, (.c (.sl TKey x1))), (24, (.c (.v (.int .i64 x2)))), (25, (.c (.v (.int .i64 x3))))], ofList none [(2561, some (.map (.int .i64) (.int .i64) x4 x5)), (46145536, some (.cells 52 [(.v (.int .i64 x6)), (.sref 5906756610)])), (5906756610, some (.arr 54 TKey x7 false))], ofList false [(2561, true), (46145536, true), (5906756610, true)]⟩
noncomputable def lNever.l3  (m : Nat) (x0 : Int) (x1 : Int) (x2 : List (El TKey)) (x3 : Int) (x4 : Int) (x5 : Int) (x6 : List (Int × Int × Nat)) (x7 : Nat) (x8 : Int) (x9 : List (El TKey)) : R := run (lNever.cfg ) 133 lNever.rs m ((todoR 35 lNever.body []).getD []) ⟨ofList (.c .junk) [(3, (.c (.ref 46145536 0))), (4, (.c (.v (.int .i64 x0)))), (5, (.c (.mref 2561))), (15, (.c (.v (.int .i64 x1)))), (23, (.c (.sl TKey x2))), (24, (.c (.v (.int .i64 x3)))), (25, (.c (.v (.int .i64 x4)))), (112, (.c (.v (.int .i64 x5))))], ofList none [(2561, some (.map (.int .i64) (.int .i64) x6 x7)), (46145536, some (.cells 52 [(.v (.int .i64 x8)), (.sref 5906756610)])), (5906756610, some (.arr 54 TKey x9 false))], ofList false [(2561, true), (46145536, true), (5906756610, true)]⟩
noncomputable def lNever.l2  (m : Nat) (x0 : Int) (x1 : Int) (x2 : Int) (x3 : Int) (x4 : List (El TKey)) (x5 : Int) (x6 : Int) (x7 : List (Int × Int × Nat)) (x8 : Nat) (x9 : Int) (x10 : List (El TKey)) : R := run (lNever.cfg ) 133 lNever.rs m ((todoR 26 lNever.body []).getD []) ⟨ofList (.c .junk) [(3, (.c (.ref 46145536 0))), (4, (.c (.v (.int .i64 x0)))), (5, (.c (.mref 2561))), (8, (.c (.v (.int .i64 x1)))), (11, (.c (.v (.int .i64 x2)))), (12, (.c (.v (.int .i64 x3)))), (23, (.c (.sl TKey x4))), (24, (.c (.v (.int .i64 x5)))), (25, (.c (.v (.int .i64 x6))))], ofList none [(2561, some (.map (.int .i64) (.int .i64) x7 x8)), (46145536, some (.cells 52 [(.v (.int .i64 x9)), (.sref 5906756610)])), (5906756610, some (.arr 54 TKey x10 false))], ofList false [(2561, true), (46145536, true), (5906756610, true)]⟩
noncomputable def lNever.go  (m : Nat) (x0 : (List (El TKey))) : R := run (lNever.cfg ) 133 lNever.rs m [.code lNever.body] (enter (ivA lNever.ps (x0, ())))
theorem lNever.start  (m : Nat) (x0 : (List (El TKey))) : lNever.go  (m + 1) x0 =
  cond (decide (((List.length x0) : Int) > (300 : Int))) (
   some ((.c (.v (.bool true))), [])) (
   lNever.l1  m (0 : Int) x0 ((List.length x0) : Int) (0 : Int) [] 0 (0 : El (Ty.int IntKind.i64)) ([] : List (El TKey))) := by kernel_rfl
theorem lNever.s1  (m : Nat) (x0 : Int) (x1 : List (El TKey)) (x2 : Int) (x3 : Int) (x4 : List (Int × Int × Nat)) (x5 : Nat) (x6 : Int) (x7 : List (El TKey)) : lNever.l1  (m + 1) x0 x1 x2 x3 x4 x5 x6 x7 =
  cond (decide (x3 < x2)) (
   test (decide ((0 : Int) ≤ x3)) (
    test (decide (x3 < ((List.length x1) : Int))) (
     cond (((rdEl TKey x1 (Int.toNat x3))).1 == (0 : Int)) (
      test (close.pre ((x6, x7), (((rdEl TKey x1 (Int.toNat x3))).2, Unit.unit))) (
       cond (Bool.not (((closeE (x6, x7) ((rdEl TKey x1 (Int.toNat x3))).2) == (0 : Int)) == (decide ((getE (.int .i64) (.int .i64) (0 : Int) ((rdEl TKey x1 (Int.toNat x3))).2 x4) > (0 : Int))))) (
        some ((.c (.v (.bool false))), [])) (
        cond ((closeE (x6, x7) ((rdEl TKey x1 (Int.toNat x3))).2) == (0 : Int)) (
         cond (bne (closeI (x6, x7) ((rdEl TKey x1 (Int.toNat x3))).2) (IntKind.i64.wrap ((getE (.int .i64) (.int .i64) (0 : Int) ((rdEl TKey x1 (Int.toNat x3))).2 x4) - (1 : Int)))) (
          some ((.c (.v (.bool false))), [])) (
          lNever.l3  m x0 (0 : Int) x1 x2 x3 (0 : Int) (delE (.int .i64) (.int .i64) ((rdEl TKey x1 (Int.toNat x3))).2 x4) x5 ((closeB (x6, x7) ((rdEl TKey x1 (Int.toNat x3))).2)).1 ((closeB (x6, x7) ((rdEl TKey x1 (Int.toNat x3))).2)).2)) (
         lNever.l3  m x0 (0 : Int) x1 x2 x3 (0 : Int) (delE (.int .i64) (.int .i64) ((rdEl TKey x1 (Int.toNat x3))).2 x4) x5 ((closeB (x6, x7) ((rdEl TKey x1 (Int.toNat x3))).2)).1 ((closeB (x6, x7) ((rdEl TKey x1 (Int.toNat x3))).2)).2)))) (
      cond (((rdEl TKey x1 (Int.toNat x3))).1 == (1 : Int)) (
       lNever.l2  m x0 (IntKind.i64.wrap (Int.tmod (IntKind.u64.wrap ((rdEl TKey x1 (Int.toNat x3))).2) (5 : Int))) (0 : Int) (1 : Int) x1 x2 x3 x4 x5 x6 x7) (
       test (open.pre ((x6, x7), ((IntKind.i64.wrap (Int.tmod (IntKind.u64.wrap ((rdEl TKey x1 (Int.toNat x3))).2) (5 : Int))), Unit.unit))) (
        cond (bne (openE (x6, x7)) (0 : Int)) (
         some ((.c (.v (.bool false))), [])) (
         cond (decide ((openI (x6, x7)) ≤ x0)) (
          some ((.c (.v (.bool false))), [])) (
          cond (decide ((openI (x6, x7)) > (1000000 : Int))) (
           some ((.c (.v (.bool true))), [])) (
           lNever.l3  m (openI (x6, x7)) (0 : Int) x1 x2 x3 (0 : Int) (setE (.int .i64) (.int .i64) x5 (openI (x6, x7)) (IntKind.i64.wrap ((IntKind.i64.wrap (Int.tmod (IntKind.u64.wrap ((rdEl TKey x1 (Int.toNat x3))).2) (5 : Int))) + (1 : Int))) x4) (clockE (.int .i64) (.int .i64) x5 (openI (x6, x7)) x4) ((openB (x6, x7) (IntKind.i64.wrap (Int.tmod (IntKind.u64.wrap ((rdEl TKey x1 (Int.toNat x3))).2) (5 : Int))))).1 ((openB (x6, x7) (IntKind.i64.wrap (Int.tmod (IntKind.u64.wrap ((rdEl TKey x1 (Int.toNat x3))).2) (5 : Int))))).2))))))))) (
   some ((.c (.v (.bool true))), [])) := by kernel_rfl
theorem lNever.s3  (m : Nat) (x0 : Int) (x1 : Int) (x2 : List (El TKey)) (x3 : Int) (x4 : Int) (x5 : Int) (x6 : List (Int × Int × Nat)) (x7 : Nat) (x8 : Int) (x9 : List (El TKey)) : lNever.l3  (m + 1) x0 x1 x2 x3 x4 x5 x6 x7 x8 x9 =
  cond (decide (x5 < (5 : Int))) (
   test (count.pre ((x8, x9), (x5, Unit.unit))) (
    lNever.l3  m x0 (IntKind.i64.wrap (x1 + (countI (x8, x9) x5))) x2 x3 x4 (IntKind.i64.wrap (x5 + (1 : Int))) x6 x7 x8 x9)) (
   test (len.pre ((x8, x9), Unit.unit)) (
    cond (bne x1 ((List.length x9) : Int)) (
     some ((.c (.v (.bool false))), [])) (
     cond (bne x1 ((List.length x6) : Int)) (
      some ((.c (.v (.bool false))), [])) (
      lNever.l1  m x0 x2 x3 (IntKind.i64.wrap (x4 + (1 : Int))) x6 x7 x8 x9)))) := by kernel_rfl
theorem lNever.s2  (m : Nat) (x0 : Int) (x1 : Int) (x2 : Int) (x3 : Int) (x4 : List (El TKey)) (x5 : Int) (x6 : Int) (x7 : List (Int × Int × Nat)) (x8 : Nat) (x9 : Int) (x10 : List (El TKey)) : lNever.l2  (m + 1) x0 x1 x2 x3 x4 x5 x6 x7 x8 x9 x10 =
  cond (decide (x3 ≤ x0)) (
   cond ((getE (.int .i64) (.int .i64) (0 : Int) x3 x7) == (IntKind.i64.wrap (x1 + (1 : Int)))) (
    lNever.l2  m x0 x1 (IntKind.i64.wrap (x2 + (1 : Int))) (IntKind.i64.wrap (x3 + (1 : Int))) x4 x5 x6 (delE (.int .i64) (.int .i64) x3 x7) x8 x9 x10) (
    lNever.l2  m x0 x1 x2 (IntKind.i64.wrap (x3 + (1 : Int))) x4 x5 x6 x7 x8 x9 x10)) (
   test (drop.pre ((x9, x10), (x1, Unit.unit))) (
    cond (bne (countI (x9, x10) x1) x2) (
     some ((.c (.v (.bool false))), [])) (
     lNever.l3  m x0 (0 : Int) x4 x5 x6 (0 : Int) x7 x8 ((dropB (x9, x10) x1)).1 ((dropB (x9, x10) x1)).2))) := by kernel_rfl
theorem lNever.run_eq  (m : Nat) (x0 : (List (El TKey))) : run (lNever.cfg ) Try.f4.ntmps Try.f4.results.toList m [.code (bodyOf Try.f4)] (enter (ivA lNever.ps (x0, ()))) = lNever.go  m x0 := by kernel_rfl
theorem lNever.ret  (hs : SpecsOK Try.prog (lNever.specs )) (ho : OSpecsOK Try.prog (lNever.ospecs )) (x0 : (List (El TKey))) {m : Nat} {r : IV} (h : lNever.go  m x0 = some (r, [])) : VE.Returns Try.prog 4 (ivA lNever.ps (x0, ())) r :=
  returns_of_run (cfg := lNever.cfg ) (cfgOK_of mixed tab_ok hs ho) rfl Try.func4 (body_some (by kernel_rfl)) (Nat.le_of_ble_eq_true (by kernel_rfl)) ((lNever.run_eq  m x0).trans h)
abbrev lNever.Law : Prop := ∀ (x0 : (List (El TKey))), lNever.pre (x0, ()) = true → VE.Returns Try.prog 4 (ivA lNever.ps (x0, ())) (lNever.res (x0, ()))
theorem lNever.mkR (H : ∀ (x0 : (List (El TKey))), lNever.pre (x0, ()) = true → VE.Returns Try.prog 4 (ivA lNever.ps (x0, ())) (lNever.res (x0, ()))) : SpecOK Try.prog 4 lNever.sp :=
  specOf_ret Try.func4 (by kernel_rfl) (by kernel_rfl) fun (x : (List (El TKey)) × Unit) hx => H (x.1) hx
theorem lNever.mk  (hs : SpecsOK Try.prog (lNever.specs )) (ho : OSpecsOK Try.prog (lNever.ospecs )) (H : ∀ (x0 : (List (El TKey))), lNever.pre (x0, ()) = true → ∃ m, lNever.go  m x0 = some (lNever.res (x0, ()), [])) : SpecOK Try.prog 4 lNever.sp :=
  lNever.mkR fun x0 hx => (H x0 hx).elim fun _ hm => lNever.ret  hs ho x0 hm

end Go.Proofs.Ytlmfmpfpildemaa
