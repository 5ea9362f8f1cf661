/-
  Steps of the bodies, from checkpoint to checkpoint (printed by wip/VE/mk2.py).
-/
import Derived.Test.YtlbdljebmjajdaaBF
namespace Go.Proofs.Ytlbdljebmjajdaa
open Go VE

/-! ### triage/triagelaw8.TableForms -/
abbrev lForms.ps : List AK := [.d false (.sl THost), .d false (.sl THost), .d true THost, .d false (.int .i64)]
def lForms.pre : ElA lForms.ps → Bool := fun (x : (List (El THost)) × (List (El THost)) × (El THost) × Int × Unit) => fits (.sl THost) (x.1) && (fits (.sl THost) (x.2.1) && (fits THost (x.2.2.1) && (fits (.int .i64) (x.2.2.2.1) && (true))))
def lForms.res : ElA lForms.ps → IV := fun (x : (List (El THost)) × (List (El THost)) × (El THost) × Int × Unit) => (fun _ _ _ _ => vb true) x.1 x.2.1 x.2.2.1 x.2.2.2.1
def lForms.sp : ISpec := spOf lForms.ps lForms.pre lForms.res
abbrev lForms.OK : Prop := SpecOK Try.prog 5 lForms.sp
noncomputable def lForms.body : Code := bodyOf Try.f5
noncomputable def lForms.rs : List ResultVar := Try.f5.results.toList
def lForms.live : List (Nat × Live) := []
noncomputable def lForms.specs  : List (Nat × (List Bool × ISpec)) := [(8, ([], lightT.sp)), (18, ([], light.sp)), (10, ([], awake.sp)), (16, ([], sameHR.sp)), (12, ([], ints.sp)), (17, ([], mayT.sp)), (9, ([], mayTR.sp)), (23, ([], find.sp)), (14, ([], findR.sp))]
noncomputable def lForms.ospecs  : List (Nat × OS) := [(15, ⟨[], [], add.sp⟩), (19, ⟨[], [], addR.sp⟩), (20, ⟨[], [], cut.sp⟩), (21, ⟨[], [], cutR.sp⟩), (11, ⟨[], [], change.sp⟩), (22, ⟨[], [], changeR.sp⟩)]
noncomputable def lForms.cfg  : Cfg := ⟨lkp tab, lkp (lForms.specs ), lkp lForms.live, ⟨lkp (lForms.ospecs ), [], none, false, []⟩⟩
noncomputable def lForms.go  (m : Nat) (x0 : (List (El THost))) (x1 : (List (El THost))) (x2 : (El THost)) (x3 : Int) : R := run (lForms.cfg ) 132 lForms.rs m [.code lForms.body] (enter (ivA lForms.ps (x0, x1, x2, x3, ())))
theorem lForms.start  (m : Nat) (x0 : (List (El THost))) (x1 : (List (El THost))) (x2 : (El THost)) (x3 : Int) : lForms.go  (m + 1) x0 x1 x2 x3 =
  test (lightT.pre (x0, Unit.unit)) (
   test (lightT.pre (x1, Unit.unit)) (
    test (light.pre (x2, Unit.unit)) (
     cond (decide ((IntKind.i64.wrap ((IntKind.i64.wrap ((lightTI x0) + (lightTI x1))) + (lightI x2))) > (0 : Int))) (
      some ((.c (.v (.bool true))), [])) (
      test (add.pre (x0, (x2, Unit.unit))) (
       test (addR.pre (x0, (x2, Unit.unit))) (
        test (cut.pre (x0, (x3, Unit.unit))) (
         test (cutR.pre (x0, (x3, Unit.unit))) (
          test (change.pre (x0, (x1, Unit.unit))) (
           test (changeR.pre (x0, (x1, Unit.unit))) (
            test (sameHR.pre ((addL x0 x2), ((addL x0 x2), Unit.unit))) (
             cond (sameHB (addL x0 x2) (addL x0 x2)) (
              cond ((addE x0 x2) == (addE x0 x2)) (
               test (sameHR.pre ((cutL x0 x3), ((cutL x0 x3), Unit.unit))) (
                cond (sameHB (cutL x0 x3) (cutL x0 x3)) (
                 cond ((cutE x0 x3) == (cutE x0 x3)) (
                  test (ints.pre ((comeL x0 x1), ((comeL x0 x1), Unit.unit))) (
                   cond (eqIs (comeL x0 x1) (comeL x0 x1)) (
                    test (ints.pre ((goneL x0 x1), ((goneR x0 x1), Unit.unit))) (
                     cond (eqIs (goneL x0 x1) (goneR x0 x1)) (
                      test (ints.pre ((stayL x0 x1), ((stayL x0 x1), Unit.unit))) (
                       cond (eqIs (stayL x0 x1) (stayL x0 x1)) (
                        cond ((changeE x0 x1) == (changeE x0 x1)) (
                         test (mayT.pre (x0, Unit.unit)) (
                          test (mayTR.pre (x0, Unit.unit)) (
                           cond ((mayTB x0) == (mayTB x0)) (
                            test (find.pre (x0, (x3, Unit.unit))) (
                             test (findR.pre (x0, (x3, Unit.unit))) (
                              cond ((ixOf (idH x3) x0) == (ixOf (idH x3) x0)) (
                               some ((.c (.v (.bool true))), [])) (
                               some ((.c (.v (.bool false))), []))))) (
                            some ((.c (.v (.bool false))), []))))) (
                         some ((.c (.v (.bool false))), []))) (
                        some ((.c (.v (.bool false))), [])))) (
                      some ((.c (.v (.bool false))), [])))) (
                    some ((.c (.v (.bool false))), [])))) (
                  some ((.c (.v (.bool false))), []))) (
                 some ((.c (.v (.bool false))), [])))) (
               some ((.c (.v (.bool false))), []))) (
              some ((.c (.v (.bool false))), []))))))))))))) := by kernel_rfl
theorem lForms.run_eq  (m : Nat) (x0 : (List (El THost))) (x1 : (List (El THost))) (x2 : (El THost)) (x3 : Int) : run (lForms.cfg ) Try.f5.ntmps Try.f5.results.toList m [.code (bodyOf Try.f5)] (enter (ivA lForms.ps (x0, x1, x2, x3, ()))) = lForms.go  m x0 x1 x2 x3 := by kernel_rfl
theorem lForms.ret  (hs : SpecsOK Try.prog (lForms.specs )) (ho : OSpecsOK Try.prog (lForms.ospecs )) (x0 : (List (El THost))) (x1 : (List (El THost))) (x2 : (El THost)) (x3 : Int) {m : Nat} {r : IV} (h : lForms.go  m x0 x1 x2 x3 = some (r, [])) : VE.Returns Try.prog 5 (ivA lForms.ps (x0, x1, x2, x3, ())) r :=
  returns_of_run (cfg := lForms.cfg ) (cfgOK_of mixed tab_ok hs ho) rfl Try.func5 (body_some (by kernel_rfl)) (Nat.le_of_ble_eq_true (by kernel_rfl)) ((lForms.run_eq  m x0 x1 x2 x3).trans h)
abbrev lForms.Law : Prop := ∀ (x0 : (List (El THost))) (x1 : (List (El THost))) (x2 : (El THost)) (x3 : Int), lForms.pre (x0, x1, x2, x3, ()) = true → VE.Returns Try.prog 5 (ivA lForms.ps (x0, x1, x2, x3, ())) (lForms.res (x0, x1, x2, x3, ()))
theorem lForms.mkR (H : ∀ (x0 : (List (El THost))) (x1 : (List (El THost))) (x2 : (El THost)) (x3 : Int), lForms.pre (x0, x1, x2, x3, ()) = true → VE.Returns Try.prog 5 (ivA lForms.ps (x0, x1, x2, x3, ())) (lForms.res (x0, x1, x2, x3, ()))) : SpecOK Try.prog 5 lForms.sp :=
  specOf_ret Try.func5 (by kernel_rfl) (by kernel_rfl) fun (x : (List (El THost)) × (List (El THost)) × (El THost) × Int × Unit) hx => H (x.1) (x.2.1) (x.2.2.1) (x.2.2.2.1) hx
theorem lForms.mk  (hs : SpecsOK Try.prog (lForms.specs )) (ho : OSpecsOK Try.prog (lForms.ospecs )) (H : ∀ (x0 : (List (El THost))) (x1 : (List (El THost))) (x2 : (El THost)) (x3 : Int), lForms.pre (x0, x1, x2, x3, ()) = true → ∃ m, lForms.go  m x0 x1 x2 x3 = some (lForms.res (x0, x1, x2, x3, ()), [])) : SpecOK Try.prog 5 lForms.sp :=
  lForms.mkR fun x0 x1 x2 x3 hx => (H x0 x1 x2 x3 hx).elim fun _ hm => lForms.ret  hs ho x0 x1 x2 x3 hm

/-! ### triage/triagelaw8.TableBack -/
abbrev lBack.ps : List AK := [.d false (.sl THost), .d true THost]
def lBack.pre : ElA lBack.ps → Bool := fun (x : (List (El THost)) × (El THost) × Unit) => fits (.sl THost) (x.1) && (fits THost (x.2.1) && (true))
def lBack.res : ElA lBack.ps → IV := fun (x : (List (El THost)) × (El THost) × Unit) => (fun _ _ => vb true) x.1 x.2.1
def lBack.sp : ISpec := spOf lBack.ps lBack.pre lBack.res
abbrev lBack.OK : Prop := SpecOK Try.prog 6 lBack.sp
noncomputable def lBack.body : Code := bodyOf Try.f6
noncomputable def lBack.rs : List ResultVar := Try.f6.results.toList
def lBack.live : List (Nat × Live) := []
noncomputable def lBack.specs  : List (Nat × (List Bool × ISpec)) := [(8, ([], lightT.sp)), (18, ([], light.sp)), (10, ([], awake.sp)), (17, ([], mayT.sp)), (9, ([], mayTR.sp)), (23, ([], find.sp)), (16, ([], sameHR.sp)), (24, ([], sameR.sp))]
noncomputable def lBack.ospecs  : List (Nat × OS) := [(15, ⟨[], [], add.sp⟩), (20, ⟨[], [], cut.sp⟩)]
noncomputable def lBack.cfg  : Cfg := ⟨lkp tab, lkp (lBack.specs ), lkp lBack.live, ⟨lkp (lBack.ospecs ), [], none, false, []⟩⟩
noncomputable def lBack.go  (m : Nat) (x0 : (List (El THost))) (x1 : (El THost)) : R := run (lBack.cfg ) 120 lBack.rs m [.code lBack.body] (enter (ivA lBack.ps (x0, x1, ())))
theorem lBack.start  (m : Nat) (x0 : (List (El THost))) (x1 : (El THost)) : lBack.go  (m + 1) x0 x1 =
  test (lightT.pre (x0, Unit.unit)) (
   test (light.pre (x1, Unit.unit)) (
    cond (decide ((IntKind.i64.wrap ((lightTI x0) + (lightI x1))) > (0 : Int))) (
     some ((.c (.v (.bool true))), [])) (
     test (mayT.pre (x0, Unit.unit)) (
      cond (Bool.not (mayTB x0)) (
       some ((.c (.v (.bool true))), [])) (
       test (mayTR.pre (x0, Unit.unit)) (
        cond (Bool.not (mayTB x0)) (
         some ((.c (.v (.bool true))), [])) (
         test (add.pre (x0, (x1, Unit.unit))) (
          cond (bne (addE x0 x1) (0 : Int)) (
           cond (((List.length (addL x0 x1)) : Int) == (0 : Int)) (
            cond ((addE x0 x1) == (1 : Int)) (
             some ((.c (.v (.bool true))), [])) (
             cond ((addE x0 x1) == (3 : Int)) (
              test (find.pre (x0, (x1.1, Unit.unit))) (
               cond (decide ((ixOf (idH x1.1) x0) ≥ (0 : Int))) (
                some ((.c (.v (.bool true))), [])) (
                cond ((addE x0 x1) == (6 : Int)) (
                 cond (((List.length x0) : Int) == (64 : Int)) (
                  some ((.c (.v (.bool true))), [])) (
                  some ((.c (.v (.bool false))), []))) (
                 some ((.c (.v (.bool false))), []))))) (
              cond ((addE x0 x1) == (6 : Int)) (
               cond (((List.length x0) : Int) == (64 : Int)) (
                some ((.c (.v (.bool true))), [])) (
                some ((.c (.v (.bool false))), []))) (
               some ((.c (.v (.bool false))), []))))) (
            some ((.c (.v (.bool false))), []))) (
           test (add.pre ((addL x0 x1), (x1, Unit.unit))) (
            test (cut.pre ((addL x0 x1), (x1.1, Unit.unit))) (
             test (find.pre ((addL x0 x1), (x1.1, Unit.unit))) (
              cond ((addE (addL x0 x1) x1) == (3 : Int)) (
               cond ((cutE (addL x0 x1) x1.1) == (0 : Int)) (
                test (sameHR.pre ((cutL (addL x0 x1) x1.1), (x0, Unit.unit))) (
                 cond (sameHB (cutL (addL x0 x1) x1.1) x0) (
                  test (mayT.pre ((addL x0 x1), Unit.unit)) (
                   cond (mayTB (addL x0 x1)) (
                    cond (decide ((ixOf (idH x1.1) (addL x0 x1)) ≥ (0 : Int))) (
                     cond (decide ((ixOf (idH x1.1) (addL x0 x1)) < ((List.length (addL x0 x1)) : Int))) (
                      test (decide ((0 : Int) ≤ (ixOf (idH x1.1) (addL x0 x1)))) (
                       test (decide ((ixOf (idH x1.1) (addL x0 x1)) < ((List.length (addL x0 x1)) : Int))) (
                        test (sameR.pre (((rdEl THost (addL x0 x1) (Int.toNat (ixOf (idH x1.1) (addL x0 x1))))), (x1, Unit.unit))) (
                         cond (sameB ((rdEl THost (addL x0 x1) (Int.toNat (ixOf (idH x1.1) (addL x0 x1))))) x1) (
                          some ((.c (.v (.bool true))), [])) (
                          some ((.c (.v (.bool false))), [])))))) (
                      some ((.c (.v (.bool false))), []))) (
                     some ((.c (.v (.bool false))), []))) (
                    some ((.c (.v (.bool false))), [])))) (
                  some ((.c (.v (.bool false))), [])))) (
                some ((.c (.v (.bool false))), []))) (
               some ((.c (.v (.bool false))), [])))))))))))))) := by kernel_rfl
theorem lBack.run_eq  (m : Nat) (x0 : (List (El THost))) (x1 : (El THost)) : run (lBack.cfg ) Try.f6.ntmps Try.f6.results.toList m [.code (bodyOf Try.f6)] (enter (ivA lBack.ps (x0, x1, ()))) = lBack.go  m x0 x1 := by kernel_rfl
theorem lBack.ret  (hs : SpecsOK Try.prog (lBack.specs )) (ho : OSpecsOK Try.prog (lBack.ospecs )) (x0 : (List (El THost))) (x1 : (El THost)) {m : Nat} {r : IV} (h : lBack.go  m x0 x1 = some (r, [])) : VE.Returns Try.prog 6 (ivA lBack.ps (x0, x1, ())) r :=
  returns_of_run (cfg := lBack.cfg ) (cfgOK_of mixed tab_ok hs ho) rfl Try.func6 (body_some (by kernel_rfl)) (Nat.le_of_ble_eq_true (by kernel_rfl)) ((lBack.run_eq  m x0 x1).trans h)
abbrev lBack.Law : Prop := ∀ (x0 : (List (El THost))) (x1 : (El THost)), lBack.pre (x0, x1, ()) = true → VE.Returns Try.prog 6 (ivA lBack.ps (x0, x1, ())) (lBack.res (x0, x1, ()))
theorem lBack.mkR (H : ∀ (x0 : (List (El THost))) (x1 : (El THost)), lBack.pre (x0, x1, ()) = true → VE.Returns Try.prog 6 (ivA lBack.ps (x0, x1, ())) (lBack.res (x0, x1, ()))) : SpecOK Try.prog 6 lBack.sp :=
  specOf_ret Try.func6 (by kernel_rfl) (by kernel_rfl) fun (x : (List (El THost)) × (El THost) × Unit) hx => H (x.1) (x.2.1) hx
theorem lBack.mk  (hs : SpecsOK Try.prog (lBack.specs )) (ho : OSpecsOK Try.prog (lBack.ospecs )) (H : ∀ (x0 : (List (El THost))) (x1 : (El THost)), lBack.pre (x0, x1, ()) = true → ∃ m, lBack.go  m x0 x1 = some (lBack.res (x0, x1, ()), [])) : SpecOK Try.prog 6 lBack.sp :=
  lBack.mkR fun x0 x1 hx => (H x0 x1 hx).elim fun _ hm => lBack.ret  hs ho x0 x1 hm

/-! ### triage/triagelaw8.TableChanges -/
abbrev lChanges.ps : List AK := [.d false (.sl THost), .d false (.sl THost)]
def lChanges.pre : ElA lChanges.ps → Bool := fun (x : (List (El THost)) × (List (El THost)) × Unit) => fits (.sl THost) (x.1) && (fits (.sl THost) (x.2.1) && (true))
def lChanges.res : ElA lChanges.ps → IV := fun (x : (List (El THost)) × (List (El THost)) × Unit) => (fun _ _ => vb true) x.1 x.2.1
def lChanges.sp : ISpec := spOf lChanges.ps lChanges.pre lChanges.res
abbrev lChanges.OK : Prop := SpecOK Try.prog 3 lChanges.sp
noncomputable def lChanges.body : Code := bodyOf Try.f3
noncomputable def lChanges.rs : List ResultVar := Try.f3.results.toList
def lChanges.live : List (Nat × Live) := []
noncomputable def lChanges.specs  : List (Nat × (List Bool × ISpec)) := [(8, ([], lightT.sp)), (10, ([], awake.sp)), (9, ([], mayTR.sp)), (12, ([], ints.sp))]
noncomputable def lChanges.ospecs  : List (Nat × OS) := [(11, ⟨[], [], change.sp⟩)]
noncomputable def lChanges.cfg  : Cfg := ⟨lkp tab, lkp (lChanges.specs ), lkp lChanges.live, ⟨lkp (lChanges.ospecs ), [], none, false, []⟩⟩
noncomputable def lChanges.go  (m : Nat) (x0 : (List (El THost))) (x1 : (List (El THost))) : R := run (lChanges.cfg ) 122 lChanges.rs m [.code lChanges.body] (enter (ivA lChanges.ps (x0, x1, ())))
theorem lChanges.start  (m : Nat) (x0 : (List (El THost))) (x1 : (List (El THost))) : lChanges.go  (m + 1) x0 x1 =
  test (lightT.pre (x0, Unit.unit)) (
   test (lightT.pre (x1, Unit.unit)) (
    cond (decide ((IntKind.i64.wrap ((lightTI x0) + (lightTI x1))) > (0 : Int))) (
     some ((.c (.v (.bool true))), [])) (
     test (mayTR.pre (x0, Unit.unit)) (
      cond (Bool.not (mayTB x0)) (
       some ((.c (.v (.bool true))), [])) (
       test (mayTR.pre (x1, Unit.unit)) (
        cond (Bool.not (mayTB x1)) (
         some ((.c (.v (.bool true))), [])) (
         test (change.pre (x0, (x1, Unit.unit))) (
          test (change.pre (x1, (x0, Unit.unit))) (
           cond (bne (changeE x0 x1) (0 : Int)) (
            some ((.c (.v (.bool false))), [])) (
            cond (bne (changeE x1 x0) (0 : Int)) (
             some ((.c (.v (.bool false))), [])) (
             cond (bne (IntKind.i64.wrap (((List.length (comeL x0 x1)) : Int) + ((List.length (stayL x0 x1)) : Int))) ((List.length x1) : Int)) (
              some ((.c (.v (.bool false))), [])) (
              cond (bne (IntKind.i64.wrap (((List.length (goneL x0 x1)) : Int) + ((List.length (stayL x0 x1)) : Int))) ((List.length x0) : Int)) (
               some ((.c (.v (.bool false))), [])) (
               test (ints.pre ((comeL x0 x1), ((goneL x1 x0), Unit.unit))) (
                cond (Bool.not (eqIs (comeL x0 x1) (goneL x1 x0))) (
                 some ((.c (.v (.bool false))), [])) (
                 test (ints.pre ((goneL x0 x1), ((comeL x1 x0), Unit.unit))) (
                  cond (Bool.not (eqIs (goneL x0 x1) (comeL x1 x0))) (
                   some ((.c (.v (.bool false))), [])) (
                   test (ints.pre ((stayL x0 x1), ((stayL x1 x0), Unit.unit))) (
                    cond (Bool.not (eqIs (stayL x0 x1) (stayL x1 x0))) (
                     some ((.c (.v (.bool false))), [])) (
                     test (change.pre (x0, (x0, Unit.unit))) (
                      cond ((changeE x0 x0) == (0 : Int)) (
                       cond ((IntKind.i64.wrap (((List.length (comeL x0 x0)) : Int) + ((List.length (goneL x0 x0)) : Int))) == (0 : Int)) (
                        cond (((List.length (stayL x0 x0)) : Int) == ((List.length x0) : Int)) (
                         some ((.c (.v (.bool true))), [])) (
                         some ((.c (.v (.bool false))), []))) (
                        some ((.c (.v (.bool false))), []))) (
                       some ((.c (.v (.bool false))), [])))))))))))))))))))))) := by kernel_rfl
theorem lChanges.run_eq  (m : Nat) (x0 : (List (El THost))) (x1 : (List (El THost))) : run (lChanges.cfg ) Try.f3.ntmps Try.f3.results.toList m [.code (bodyOf Try.f3)] (enter (ivA lChanges.ps (x0, x1, ()))) = lChanges.go  m x0 x1 := by kernel_rfl
theorem lChanges.ret  (hs : SpecsOK Try.prog (lChanges.specs )) (ho : OSpecsOK Try.prog (lChanges.ospecs )) (x0 : (List (El THost))) (x1 : (List (El THost))) {m : Nat} {r : IV} (h : lChanges.go  m x0 x1 = some (r, [])) : VE.Returns Try.prog 3 (ivA lChanges.ps (x0, x1, ())) r :=
  returns_of_run (cfg := lChanges.cfg ) (cfgOK_of mixed tab_ok hs ho) rfl Try.func3 (body_some (by kernel_rfl)) (Nat.le_of_ble_eq_true (by kernel_rfl)) ((lChanges.run_eq  m x0 x1).trans h)
abbrev lChanges.Law : Prop := ∀ (x0 : (List (El THost))) (x1 : (List (El THost))), lChanges.pre (x0, x1, ()) = true → VE.Returns Try.prog 3 (ivA lChanges.ps (x0, x1, ())) (lChanges.res (x0, x1, ()))
theorem lChanges.mkR (H : ∀ (x0 : (List (El THost))) (x1 : (List (El THost))), lChanges.pre (x0, x1, ()) = true → VE.Returns Try.prog 3 (ivA lChanges.ps (x0, x1, ())) (lChanges.res (x0, x1, ()))) : SpecOK Try.prog 3 lChanges.sp :=
  specOf_ret Try.func3 (by kernel_rfl) (by kernel_rfl) fun (x : (List (El THost)) × (List (El THost)) × Unit) hx => H (x.1) (x.2.1) hx
theorem lChanges.mk  (hs : SpecsOK Try.prog (lChanges.specs )) (ho : OSpecsOK Try.prog (lChanges.ospecs )) (H : ∀ (x0 : (List (El THost))) (x1 : (List (El THost))), lChanges.pre (x0, x1, ()) = true → ∃ m, lChanges.go  m x0 x1 = some (lChanges.res (x0, x1, ()), [])) : SpecOK Try.prog 3 lChanges.sp :=
  lChanges.mkR fun x0 x1 hx => (H x0 x1 hx).elim fun _ hm => lChanges.ret  hs ho x0 x1 hm

/-! ### triage/triagelaw8.TableOrder -/
abbrev lOrder.ps : List AK := [.d false (.sl THost), .d false (.int .i64)]
def lOrder.pre : ElA lOrder.ps → Bool := fun (x : (List (El THost)) × Int × Unit) => fits (.sl THost) (x.1) && (fits (.int .i64) (x.2.1) && (true))
def lOrder.res : ElA lOrder.ps → IV := fun (x : (List (El THost)) × Int × Unit) => (fun _ _ => vb true) x.1 x.2.1
def lOrder.sp : ISpec := spOf lOrder.ps lOrder.pre lOrder.res
abbrev lOrder.OK : Prop := SpecOK Try.prog 4 lOrder.sp
noncomputable def lOrder.body : Code := bodyOf Try.f4
noncomputable def lOrder.rs : List ResultVar := Try.f4.results.toList
def lOrder.live : List (Nat × Live) := [(12, ⟨[(0, .sl THost), (7, .plain), (8, .sl THost), (9, .sl THost), (52, .plain), (53, .plain)], []⟩), (4, ⟨[(0, .sl THost), (1, .plain), (22, .sl THost), (23, .plain), (24, .plain)], []⟩)]
noncomputable def lOrder.specs  : List (Nat × (List Bool × ISpec)) := [(8, ([], lightT.sp)), (18, ([], light.sp)), (10, ([], awake.sp)), (13, ([], mayR.sp)), (14, ([], findR.sp)), (16, ([], sameHR.sp)), (17, ([], mayT.sp))]
noncomputable def lOrder.ospecs  : List (Nat × OS) := [(15, ⟨[], [], add.sp⟩)]
noncomputable def lOrder.cfg  : Cfg := ⟨lkp tab, lkp (lOrder.specs ), lkp lOrder.live, ⟨lkp (lOrder.ospecs ), [], none, false, []⟩⟩
noncomputable def lOrder.l1  (m : Nat) (x0 : List (El THost)) (x1 : Int) (x2 : List (El THost)) (x3 : Int) (x4 : Int) : R := run (lOrder.cfg ) 106 lOrder.rs m ((todoR 4 lOrder.body []).getD []) ⟨ofList (.c .junk) [(0, (.c (.sl THost x0))), (1, (.c (.v (.int .i64 x1)))), (22, (.c (.sl THost x2))), (23, (.c (.v (.int .i64 x3)))), (24, (.c (.v (.int .i64 x4))))], ofList none [], ofList false []⟩
noncomputable def lOrder.l2  (m : Nat) (x0 : List (El THost)) (x1 : Int) (x2 : List (El THost)) (x3 : List (El THost)) (x4 : Int) (x5 : Int) : R := run (lOrder.cfg ) 106 lOrder.rs m ((todoR 12 lOrder.body []).getD []) ⟨ofList (.c .junk) [(0, (.c (.sl THost x0))), (7, (.c (.v (.int .i64 x1)))), (8, (.c (.sl THost x2))), (9, (.c (.sl THost x3))), (52, (.c (.v (.int .i64 x4)))), (53, (.c (.v (.int .i64 x5))))], ofList none [], ofList false []⟩
noncomputable def lOrder.go  (m : Nat) (x0 : (List (El THost))) (x1 : Int) : R := run (lOrder.cfg ) 106 lOrder.rs m [.code lOrder.body] (enter (ivA lOrder.ps (x0, x1, ())))
theorem lOrder.start  (m : Nat) (x0 : (List (El THost))) (x1 : Int) : lOrder.go  (m + 1) x0 x1 =
  test (lightT.pre (x0, Unit.unit)) (
   cond (decide ((lightTI x0) > (0 : Int))) (
    some ((.c (.v (.bool true))), [])) (
    cond (decide (((List.length x0) : Int) > (20 : Int))) (
     some ((.c (.v (.bool true))), [])) (
     lOrder.l1  m x0 x1 x0 ((List.length x0) : Int) (0 : Int)))) := by kernel_rfl
theorem lOrder.s1  (m : Nat) (x0 : List (El THost)) (x1 : Int) (x2 : List (El THost)) (x3 : Int) (x4 : Int) : lOrder.l1  (m + 1) x0 x1 x2 x3 x4 =
  cond (decide (x4 < x3)) (
   test (decide ((0 : Int) ≤ x4)) (
    test (decide (x4 < ((List.length x2) : Int))) (
     test (mayR.pre (((rdEl THost x2 (Int.toNat x4))), Unit.unit)) (
      cond (Bool.not (mayB ((rdEl THost x2 (Int.toNat x4))))) (
       some ((.c (.v (.bool true))), [])) (
       test (decide ((0 : Int) ≤ x4)) (
        test (decide (x4 ≤ ((List.length x0) : Int))) (
         test (findR.pre ((List.drop 0 (List.take (Int.toNat x4) x0)), (((rdEl THost x2 (Int.toNat x4))).1, Unit.unit))) (
          cond (decide ((ixOf (idH ((rdEl THost x2 (Int.toNat x4))).1) (List.drop 0 (List.take (Int.toNat x4) x0))) ≥ (0 : Int))) (
           some ((.c (.v (.bool true))), [])) (
           lOrder.l1  m x0 x1 x2 x3 (IntKind.i64.wrap (x4 + (1 : Int)))))))))))) (
   test (Bool.not (decide ((IntKind.u64.wrap (IntKind.i64.wrap (((List.length x0) : Int) + (1 : Int)))) = (0 : Int)))) (
    lOrder.l2  m x0 (IntKind.i64.wrap (Int.tmod (IntKind.u64.wrap x1) (IntKind.u64.wrap (IntKind.i64.wrap (((List.length x0) : Int) + (1 : Int)))))) ([] : List (El THost)) ([] : List (El THost)) ((List.length x0) : Int) (0 : Int))) := by kernel_rfl
theorem lOrder.s2  (m : Nat) (x0 : List (El THost)) (x1 : Int) (x2 : List (El THost)) (x3 : List (El THost)) (x4 : Int) (x5 : Int) : lOrder.l2  (m + 1) x0 x1 x2 x3 x4 x5 =
  cond (decide (x5 < x4)) (
   test (decide ((0 : Int) ≤ x5)) (
    test (decide (x5 < ((List.length x0) : Int))) (
     test (add.pre (x2, (((rdEl THost x0 (Int.toNat x5))), Unit.unit))) (
      cond (bne (addE x2 ((rdEl THost x0 (Int.toNat x5)))) (0 : Int)) (
       some ((.c (.v (.bool false))), [])) (
       test (Bool.not (decide (((List.length x0) : Int) = (0 : Int)))) (
        test (decide ((0 : Int) ≤ (Int.tmod (IntKind.i64.wrap (x5 + x1)) ((List.length x0) : Int)))) (
         test (decide ((Int.tmod (IntKind.i64.wrap (x5 + x1)) ((List.length x0) : Int)) < ((List.length x0) : Int))) (
          test (add.pre (x3, (((rdEl THost x0 (Int.toNat (Int.tmod (IntKind.i64.wrap (x5 + x1)) ((List.length x0) : Int))))), Unit.unit))) (
           cond (bne (addE x3 ((rdEl THost x0 (Int.toNat (Int.tmod (IntKind.i64.wrap (x5 + x1)) ((List.length x0) : Int)))))) (0 : Int)) (
            some ((.c (.v (.bool false))), [])) (
            lOrder.l2  m x0 x1 (addL x2 ((rdEl THost x0 (Int.toNat x5)))) (addL x3 ((rdEl THost x0 (Int.toNat (Int.tmod (IntKind.i64.wrap (x5 + x1)) ((List.length x0) : Int)))))) x4 (IntKind.i64.wrap (x5 + (1 : Int))))))))))))) (
   test (sameHR.pre (x2, (x3, Unit.unit))) (
    cond (sameHB x2 x3) (
     test (mayT.pre (x2, Unit.unit)) (
      cond (mayTB x2) (
       cond (((List.length x2) : Int) == ((List.length x0) : Int)) (
        some ((.c (.v (.bool true))), [])) (
        some ((.c (.v (.bool false))), []))) (
       some ((.c (.v (.bool false))), [])))) (
     some ((.c (.v (.bool false))), [])))) := by kernel_rfl
theorem lOrder.run_eq  (m : Nat) (x0 : (List (El THost))) (x1 : Int) : run (lOrder.cfg ) Try.f4.ntmps Try.f4.results.toList m [.code (bodyOf Try.f4)] (enter (ivA lOrder.ps (x0, x1, ()))) = lOrder.go  m x0 x1 := by kernel_rfl
theorem lOrder.ret  (hs : SpecsOK Try.prog (lOrder.specs )) (ho : OSpecsOK Try.prog (lOrder.ospecs )) (x0 : (List (El THost))) (x1 : Int) {m : Nat} {r : IV} (h : lOrder.go  m x0 x1 = some (r, [])) : VE.Returns Try.prog 4 (ivA lOrder.ps (x0, x1, ())) r :=
  returns_of_run (cfg := lOrder.cfg ) (cfgOK_of mixed tab_ok hs ho) rfl Try.func4 (body_some (by kernel_rfl)) (Nat.le_of_ble_eq_true (by kernel_rfl)) ((lOrder.run_eq  m x0 x1).trans h)
abbrev lOrder.Law : Prop := ∀ (x0 : (List (El THost))) (x1 : Int), lOrder.pre (x0, x1, ()) = true → VE.Returns Try.prog 4 (ivA lOrder.ps (x0, x1, ())) (lOrder.res (x0, x1, ()))
theorem lOrder.mkR (H : ∀ (x0 : (List (El THost))) (x1 : Int), lOrder.pre (x0, x1, ()) = true → VE.Returns Try.prog 4 (ivA lOrder.ps (x0, x1, ())) (lOrder.res (x0, x1, ()))) : SpecOK Try.prog 4 lOrder.sp :=
  specOf_ret Try.func4 (by kernel_rfl) (by kernel_rfl) fun (x : (List (El THost)) × Int × Unit) hx => H (x.1) (x.2.1) hx
theorem lOrder.mk  (hs : SpecsOK Try.prog (lOrder.specs )) (ho : OSpecsOK Try.prog (lOrder.ospecs )) (H : ∀ (x0 : (List (El THost))) (x1 : Int), lOrder.pre (x0, x1, ()) = true → ∃ m, lOrder.go  m x0 x1 = some (lOrder.res (x0, x1, ()), [])) : SpecOK Try.prog 4 lOrder.sp :=
  lOrder.mkR fun x0 x1 hx => (H x0 x1 hx).elim fun _ hm => lOrder.ret  hs ho x0 x1 hm

/-! ### triage/triagelaw8.TableFull -/
abbrev lFull.ps : List AK := [.d true THost, .d false (.int .i64)]
def lFull.pre : ElA lFull.ps → Bool := fun (x : (El THost) × Int × Unit) => fits THost (x.1) && (fits (.int .i64) (x.2.1) && (true))
def lFull.res : ElA lFull.ps → IV := fun (x : (El THost) × Int × Unit) => (fun _ _ => vb true) x.1 x.2.1
def lFull.sp : ISpec := spOf lFull.ps lFull.pre lFull.res
abbrev lFull.OK : Prop := SpecOK Try.prog 7 lFull.sp
noncomputable def lFull.body : Code := bodyOf Try.f7
noncomputable def lFull.rs : List ResultVar := Try.f7.results.toList
def lFull.live : List (Nat × Live) := [(6, ⟨[(1, .plain), (2, .plain), (5, .sl THost), (24, .plain), (25, .plain)], [(1, [])]⟩)]
noncomputable def lFull.specs  : List (Nat × (List Bool × ISpec)) := [(18, ([], light.sp)), (10, ([], awake.sp)), (13, ([], mayR.sp))]
noncomputable def lFull.ospecs  : List (Nat × OS) := [(15, ⟨[], [], add.sp⟩), (20, ⟨[], [], cut.sp⟩)]
noncomputable def lFull.cfg  : Cfg := ⟨lkp tab, lkp (lFull.specs ), lkp lFull.live, ⟨lkp (lFull.ospecs ), [], none, false, []⟩⟩
noncomputable def lFull.l1  (m : Nat) (x0 : Int) (x1 : List (El THost)) (x2 : Int) (x3 : Int) (x4 : Int) (x5 : ByteArray) (x6 : Int) (x7 : ByteArray) (x8 : Int) (x9 : List (El TPair)) : R := run (lFull.cfg ) 73 lFull.rs m ((todoR 6 lFull.body []).getD []) ⟨ofList (.c .junk) [(1, (.c (.v (.int .i64 x0)))), (2, (.c (.ref 1 0))), (5, (.c (.sl THost x1))), (24, (.c (.v (.int .i64 x2)))), (25, (.c (.v (.int .i64 x3))))], ofList none [(1, some (.cells 34 [(.v (.int .i64 x4)), (.v (.string x5)), (.v (.int .i64 x6)), (.v (.string x7)), (.v (.int .i64 x8)), (.sl TPair x9)]))], ofList false [(1, true)]⟩
noncomputable def lFull.go  (m : Nat) (x0 : (El THost)) (x1 : Int) : R := run (lFull.cfg ) 73 lFull.rs m [.code lFull.body] (enter (ivA lFull.ps (x0, x1, ())))
theorem lFull.start  (m : Nat) (x0 : (El THost)) (x1 : Int) : lFull.go  (m + 1) x0 x1 =
  test (light.pre (x0, Unit.unit)) (
   cond (decide ((lightI x0) > (0 : Int))) (
    some ((.c (.v (.bool true))), [])) (
    test (mayR.pre (x0, Unit.unit)) (
     cond (Bool.not (mayB x0)) (
      some ((.c (.v (.bool true))), [])) (
      lFull.l1  m (IntKind.i64.wrap (Int.tmod (IntKind.u64.wrap x1) (67 : Int))) ([] : List (El THost)) (IntKind.i64.wrap (Int.tmod (IntKind.u64.wrap x1) (67 : Int))) (0 : Int) x0.1 x0.2.1 x0.2.2.1 x0.2.2.2.1 x0.2.2.2.2.1 x0.2.2.2.2.2)))) := by kernel_rfl
theorem lFull.s1  (m : Nat) (x0 : Int) (x1 : List (El THost)) (x2 : Int) (x3 : Int) (x4 : Int) (x5 : ByteArray) (x6 : Int) (x7 : ByteArray) (x8 : Int) (x9 : List (El TPair)) : lFull.l1  (m + 1) x0 x1 x2 x3 x4 x5 x6 x7 x8 x9 =
  cond (decide (x3 < x2)) (
   test (add.pre (x1, (((IntKind.i64.wrap ((1 : Int) + x3)), (x5, (x6, (x7, (x8, x9))))), Unit.unit))) (
    cond (Bool.not (((addE x1 ((IntKind.i64.wrap ((1 : Int) + x3)), (x5, (x6, (x7, (x8, x9)))))) == (0 : Int)) == (decide (x3 < (64 : Int))))) (
     some ((.c (.v (.bool false))), [])) (
     cond (bne (addE x1 ((IntKind.i64.wrap ((1 : Int) + x3)), (x5, (x6, (x7, (x8, x9)))))) (0 : Int)) (
      cond (bne (addE x1 ((IntKind.i64.wrap ((1 : Int) + x3)), (x5, (x6, (x7, (x8, x9)))))) (6 : Int)) (
       some ((.c (.v (.bool false))), [])) (
       cond ((addE x1 ((IntKind.i64.wrap ((1 : Int) + x3)), (x5, (x6, (x7, (x8, x9)))))) == (0 : Int)) (
        lFull.l1  m x0 (addL x1 ((IntKind.i64.wrap ((1 : Int) + x3)), (x5, (x6, (x7, (x8, x9)))))) x2 (IntKind.i64.wrap (x3 + (1 : Int))) (IntKind.i64.wrap ((1 : Int) + x3)) x5 x6 x7 x8 x9) (
        lFull.l1  m x0 x1 x2 (IntKind.i64.wrap (x3 + (1 : Int))) (IntKind.i64.wrap ((1 : Int) + x3)) x5 x6 x7 x8 x9))) (
      cond ((addE x1 ((IntKind.i64.wrap ((1 : Int) + x3)), (x5, (x6, (x7, (x8, x9)))))) == (0 : Int)) (
       lFull.l1  m x0 (addL x1 ((IntKind.i64.wrap ((1 : Int) + x3)), (x5, (x6, (x7, (x8, x9)))))) x2 (IntKind.i64.wrap (x3 + (1 : Int))) (IntKind.i64.wrap ((1 : Int) + x3)) x5 x6 x7 x8 x9) (
       lFull.l1  m x0 x1 x2 (IntKind.i64.wrap (x3 + (1 : Int))) (IntKind.i64.wrap ((1 : Int) + x3)) x5 x6 x7 x8 x9))))) (
   test (cut.pre (x1, ((IntKind.i64.wrap (x0 + (1 : Int))), Unit.unit))) (
    cond (((List.length x1) : Int) == (ite ((64 : Int) < x0) (64 : Int) x0)) (
     cond ((cutE x1 (IntKind.i64.wrap (x0 + (1 : Int)))) == (4 : Int)) (
      some ((.c (.v (.bool true))), [])) (
      some ((.c (.v (.bool false))), []))) (
     some ((.c (.v (.bool false))), [])))) := by kernel_rfl
theorem lFull.run_eq  (m : Nat) (x0 : (El THost)) (x1 : Int) : run (lFull.cfg ) Try.f7.ntmps Try.f7.results.toList m [.code (bodyOf Try.f7)] (enter (ivA lFull.ps (x0, x1, ()))) = lFull.go  m x0 x1 := by kernel_rfl
theorem lFull.ret  (hs : SpecsOK Try.prog (lFull.specs )) (ho : OSpecsOK Try.prog (lFull.ospecs )) (x0 : (El THost)) (x1 : Int) {m : Nat} {r : IV} (h : lFull.go  m x0 x1 = some (r, [])) : VE.Returns Try.prog 7 (ivA lFull.ps (x0, x1, ())) r :=
  returns_of_run (cfg := lFull.cfg ) (cfgOK_of mixed tab_ok hs ho) rfl Try.func7 (body_some (by kernel_rfl)) (Nat.le_of_ble_eq_true (by kernel_rfl)) ((lFull.run_eq  m x0 x1).trans h)
abbrev lFull.Law : Prop := ∀ (x0 : (El THost)) (x1 : Int), lFull.pre (x0, x1, ()) = true → VE.Returns Try.prog 7 (ivA lFull.ps (x0, x1, ())) (lFull.res (x0, x1, ()))
theorem lFull.mkR (H : ∀ (x0 : (El THost)) (x1 : Int), lFull.pre (x0, x1, ()) = true → VE.Returns Try.prog 7 (ivA lFull.ps (x0, x1, ())) (lFull.res (x0, x1, ()))) : SpecOK Try.prog 7 lFull.sp :=
  specOf_ret Try.func7 (by kernel_rfl) (by kernel_rfl) fun (x : (El THost) × Int × Unit) hx => H (x.1) (x.2.1) hx
theorem lFull.mk  (hs : SpecsOK Try.prog (lFull.specs )) (ho : OSpecsOK Try.prog (lFull.ospecs )) (H : ∀ (x0 : (El THost)) (x1 : Int), lFull.pre (x0, x1, ()) = true → ∃ m, lFull.go  m x0 x1 = some (lFull.res (x0, x1, ()), [])) : SpecOK Try.prog 7 lFull.sp :=
  lFull.mkR fun x0 x1 hx => (H x0 x1 hx).elim fun _ hm => lFull.ret  hs ho x0 x1 hm

end Go.Proofs.Ytlbdljebmjajdaa
