/-
  Steps of the bodies, from checkpoint to checkpoint (printed by wip/VE/mk2.py).
-/
import Derived.Test.YthlbiibholhkmaaCF
namespace Go.Proofs.Ythlbiibholhkmaa
open Go VE

/-! ### triage/triagelaw9.ClockNil -/
abbrev lNil.ps : List AK := [.d true (.prod (.int .i64) TTimer)]
def lNil.pre : ElA lNil.ps → Bool := fun (x : (Int × (El TTimer)) × Unit) => fits (.prod (.int .i64) TTimer) (x.1) && (true)
def lNil.res : ElA lNil.ps → IV := fun (x : (Int × (El TTimer)) × Unit) => (fun _ => vb true) x.1
def lNil.sp : ISpec := spOf lNil.ps lNil.pre lNil.res
abbrev lNil.OK : Prop := SpecOK Try.prog 6 lNil.sp
noncomputable def lNil.body : Code := bodyOf Try.f6
noncomputable def lNil.rs : List ResultVar := Try.f6.results.toList
def lNil.live : List (Nat × Live) := []
noncomputable def lNil.specs  : List (Nat × (List Bool × ISpec)) := [(9, ([], awake.sp)), (11, ([], nowZ.sp))]
noncomputable def lNil.ospecs  : List (Nat × OS) := [(12, ⟨[], [], putZ.sp⟩), (18, ⟨[], [], cutZ.sp⟩), (13, ⟨[], [], dueZ.sp⟩), (22, ⟨[], [], whenZ.sp⟩), (14, ⟨[], [], goToZ.sp⟩), (15, ⟨[], [], allTZ.sp⟩)]
noncomputable def lNil.cfg  : Cfg := ⟨lkp tab, lkp (lNil.specs ), lkp lNil.live, ⟨lkp (lNil.ospecs ), [], none, false, []⟩⟩
noncomputable def lNil.go  (m : Nat) (x0 : (Int × (El TTimer))) : R := run (lNil.cfg ) 82 lNil.rs m [.code lNil.body] (enter (ivA lNil.ps (x0, ())))
theorem lNil.start  (m : Nat) (x0 : (Int × (El TTimer))) : lNil.go  (m + 1) x0 =
  some ((.c (.v (.bool true))), []) := by kernel_rfl
theorem lNil.run_eq  (m : Nat) (x0 : (Int × (El TTimer))) : run (lNil.cfg ) Try.f6.ntmps Try.f6.results.toList m [.code (bodyOf Try.f6)] (enter (ivA lNil.ps (x0, ()))) = lNil.go  m x0 := by kernel_rfl
theorem lNil.ret  (hs : SpecsOK Try.prog (lNil.specs )) (ho : OSpecsOK Try.prog (lNil.ospecs )) (x0 : (Int × (El TTimer))) {m : Nat} {r : IV} (h : lNil.go  m x0 = some (r, [])) : VE.Returns Try.prog 6 (ivA lNil.ps (x0, ())) r :=
  returns_of_run (cfg := lNil.cfg ) (cfgOK_of mixed tab_ok hs ho) rfl Try.func6 (body_some (by kernel_rfl)) (Nat.le_of_ble_eq_true (by kernel_rfl)) ((lNil.run_eq  m x0).trans h)
abbrev lNil.Law : Prop := ∀ (x0 : (Int × (El TTimer))), lNil.pre (x0, ()) = true → VE.Returns Try.prog 6 (ivA lNil.ps (x0, ())) (lNil.res (x0, ()))
theorem lNil.mkR (H : ∀ (x0 : (Int × (El TTimer))), lNil.pre (x0, ()) = true → VE.Returns Try.prog 6 (ivA lNil.ps (x0, ())) (lNil.res (x0, ()))) : SpecOK Try.prog 6 lNil.sp :=
  specOf_ret Try.func6 (by kernel_rfl) (by kernel_rfl) fun (x : (Int × (El TTimer)) × Unit) hx => H (x.1) hx
theorem lNil.mk  (hs : SpecsOK Try.prog (lNil.specs )) (ho : OSpecsOK Try.prog (lNil.ospecs )) (H : ∀ (x0 : (Int × (El TTimer))), lNil.pre (x0, ()) = true → ∃ m, lNil.go  m x0 = some (lNil.res (x0, ()), [])) : SpecOK Try.prog 6 lNil.sp :=
  lNil.mkR fun x0 hx => (H x0 hx).elim fun _ hm => lNil.ret  hs ho x0 hm

/-! ### triage/triagelaw9.ClockTime -/
abbrev lTime.ps : List AK := [.d false (.sl (.prod (.int .i64) TTimer))]
def lTime.pre : ElA lTime.ps → Bool := fun (x : (List (Int × (El TTimer))) × Unit) => fits (.sl (.prod (.int .i64) TTimer)) (x.1) && (true)
def lTime.res : ElA lTime.ps → IV := fun (x : (List (Int × (El TTimer))) × Unit) => (fun _ => vb true) x.1
def lTime.sp : ISpec := spOf lTime.ps lTime.pre lTime.res
abbrev lTime.OK : Prop := SpecOK Try.prog 3 lTime.sp
noncomputable def lTime.body : Code := bodyOf Try.f3
noncomputable def lTime.rs : List ResultVar := Try.f3.results.toList
def lTime.live : List (Nat × Live) := [(21, ⟨[(3, .plain), (16, .sl (.prod (.int .i64) TTimer)), (17, .plain), (18, .plain), (81, .sl TTimer), (82, .plain), (83, .plain)], [(46145536, [.plain, .arr 27 TTimer])]⟩), (5, ⟨[(3, .plain), (16, .sl (.prod (.int .i64) TTimer)), (17, .plain), (18, .plain)], [(46145536, [.plain, .arr 27 TTimer])]⟩)]
noncomputable def lTime.specs  : List (Nat × (List Bool × ISpec)) := [(9, ([], awake.sp)), (11, ([], now.sp))]
noncomputable def lTime.ospecs  : List (Nat × OS) := [(10, ⟨[], [], new.sp⟩), (12, ⟨[some (.obj [.plain, .arr 27 TTimer])], [], put.sp⟩), (13, ⟨[some (.obj [.plain, .arr 27 TTimer])], [], due.sp⟩), (14, ⟨[some (.obj [.plain, .arr 27 TTimer])], [], goTo.sp⟩), (15, ⟨[some (.obj [.plain, .arr 27 TTimer])], [], allT.sp⟩)]
noncomputable def lTime.cfg  : Cfg := ⟨lkp tab, lkp (lTime.specs ), lkp lTime.live, ⟨lkp (lTime.ospecs ), [], none, false, []⟩⟩
noncomputable def lTime.l1  (m : Nat) (x0 : List (Int × (El TTimer))) (x1 : Int) (x2 : Int) (x3 : Int) (x4 : List (El TTimer)) : R := run (lTime.cfg ) 95 lTime.rs m ((todoR 5 lTime.body []).getD []) ⟨ofList (.c .junk) [(3, (.c (.ref 46145536 0))), (16, (.c (.sl (.prod (.int .i64) TTimer) x0))), (17, (.c (.v (.int .i64 x1)))), (18, (.c (.v (.int .i64 x2))))], ofList none [(46145536, some (.cells 55 [(.v (.int .i64 x3)), (.sref 5906756610)])), (5906756610, some (.arr 27 TTimer x4 false))], ofList false [(46145536, true), (5906756610, true)]⟩
noncomputable def lTime.l2  (m : Nat) (x0 : List (Int × (El TTimer))) (x1 : Int) (x2 : Int) (x3 : List (El TTimer)) (x4 : Int) (x5 : Int) (x6 : Int) (x7 : List (El TTimer)) : R := run (lTime.cfg ) 95 lTime.rs m ((todoR 21 lTime.body []).getD []) ⟨ofList (.c .junk) [(3, (.c (.ref 46145536 0))), (16, (.c (.sl (.prod (.int .i64) TTimer) x0))), (17, (.c (.v (.int .i64 x1)))), (18, (.c (.v (.int .i64 x2)))), (81, (.c (.sl TTimer x3))), (82, (.c (.v (.int .i64 x4)))), (83, (.c (.v (.int .i64 x5))))], ofList none [(46145536, some (.cells 55 [(.v (.int .i64 x6)), (.sref 5906756610)])), (5906756610, some (.arr 27 TTimer x7 false))], ofList false [(46145536, true), (5906756610, true)]⟩
noncomputable def lTime.go  (m : Nat) (x0 : (List (Int × (El TTimer)))) : R := run (lTime.cfg ) 95 lTime.rs m [.code lTime.body] (enter (ivA lTime.ps (x0, ())))
theorem lTime.start  (m : Nat) (x0 : (List (Int × (El TTimer)))) : lTime.go  (m + 1) x0 =
  cond (decide (((List.length x0) : Int) > (150 : Int))) (
   some ((.c (.v (.bool true))), [])) (
   lTime.l1  m x0 ((List.length x0) : Int) (0 : Int) (timeC (100 : Int)) ([] : List (El TTimer))) := by kernel_rfl
theorem lTime.s1  (m : Nat) (x0 : List (Int × (El TTimer))) (x1 : Int) (x2 : Int) (x3 : Int) (x4 : List (El TTimer)) : lTime.l1  (m + 1) x0 x1 x2 x3 x4 =
  cond (decide (x2 < x1)) (
   test (decide ((0 : Int) ≤ x2)) (
    test (decide (x2 < ((List.length x0) : Int))) (
     test (now.pre ((x3, x4), Unit.unit)) (
      cond (((rdEl (.prod (.int .i64) TTimer) x0 (Int.toNat x2))).1 == (0 : Int)) (
       test (put.pre ((x3, x4), (((rdEl (.prod (.int .i64) TTimer) x0 (Int.toNat x2))).2, Unit.unit))) (
        cond (setOk (x3, x4) ((rdEl (.prod (.int .i64) TTimer) x0 (Int.toNat x2))).2) (
         cond (decide ((((rdEl (.prod (.int .i64) TTimer) x0 (Int.toNat x2))).2).1 < x3)) (
          some ((.c (.v (.bool false))), [])) (
          test (now.pre (((setC (x3, x4) ((rdEl (.prod (.int .i64) TTimer) x0 (Int.toNat x2))).2)), Unit.unit)) (
           cond (decide (((setC (x3, x4) ((rdEl (.prod (.int .i64) TTimer) x0 (Int.toNat x2))).2)).1 < x3)) (
            some ((.c (.v (.bool false))), [])) (
            test (now.pre (((setC (x3, x4) ((rdEl (.prod (.int .i64) TTimer) x0 (Int.toNat x2))).2)), Unit.unit)) (
             cond (decide (((setC (x3, x4) ((rdEl (.prod (.int .i64) TTimer) x0 (Int.toNat x2))).2)).1 > (4611686018427387904 : Int))) (
              some ((.c (.v (.bool false))), [])) (
              test (allT.pre (((setC (x3, x4) ((rdEl (.prod (.int .i64) TTimer) x0 (Int.toNat x2))).2)), Unit.unit)) (
               lTime.l2  m x0 x1 x2 ((setC (x3, x4) ((rdEl (.prod (.int .i64) TTimer) x0 (Int.toNat x2))).2)).2 ((List.length ((setC (x3, x4) ((rdEl (.prod (.int .i64) TTimer) x0 (Int.toNat x2))).2)).2) : Int) (0 : Int) ((setC (x3, x4) ((rdEl (.prod (.int .i64) TTimer) x0 (Int.toNat x2))).2)).1 ((setC (x3, x4) ((rdEl (.prod (.int .i64) TTimer) x0 (Int.toNat x2))).2)).2))))))) (
         test (now.pre (((setC (x3, x4) ((rdEl (.prod (.int .i64) TTimer) x0 (Int.toNat x2))).2)), Unit.unit)) (
          cond (decide (((setC (x3, x4) ((rdEl (.prod (.int .i64) TTimer) x0 (Int.toNat x2))).2)).1 < x3)) (
           some ((.c (.v (.bool false))), [])) (
           test (now.pre (((setC (x3, x4) ((rdEl (.prod (.int .i64) TTimer) x0 (Int.toNat x2))).2)), Unit.unit)) (
            cond (decide (((setC (x3, x4) ((rdEl (.prod (.int .i64) TTimer) x0 (Int.toNat x2))).2)).1 > (4611686018427387904 : Int))) (
             some ((.c (.v (.bool false))), [])) (
             test (allT.pre (((setC (x3, x4) ((rdEl (.prod (.int .i64) TTimer) x0 (Int.toNat x2))).2)), Unit.unit)) (
              lTime.l2  m x0 x1 x2 ((setC (x3, x4) ((rdEl (.prod (.int .i64) TTimer) x0 (Int.toNat x2))).2)).2 ((List.length ((setC (x3, x4) ((rdEl (.prod (.int .i64) TTimer) x0 (Int.toNat x2))).2)).2) : Int) (0 : Int) ((setC (x3, x4) ((rdEl (.prod (.int .i64) TTimer) x0 (Int.toNat x2))).2)).1 ((setC (x3, x4) ((rdEl (.prod (.int .i64) TTimer) x0 (Int.toNat x2))).2)).2)))))))) (
       cond (((rdEl (.prod (.int .i64) TTimer) x0 (Int.toNat x2))).1 == (2 : Int)) (
        test (due.pre ((x3, x4), ((((rdEl (.prod (.int .i64) TTimer) x0 (Int.toNat x2))).2).1, Unit.unit))) (
         cond (dueB (x3, x4) (((rdEl (.prod (.int .i64) TTimer) x0 (Int.toNat x2))).2).1) (
          cond (decide (((nextT (x3, x4) (((rdEl (.prod (.int .i64) TTimer) x0 (Int.toNat x2))).2).1)).1 > (((rdEl (.prod (.int .i64) TTimer) x0 (Int.toNat x2))).2).1)) (
           some ((.c (.v (.bool false))), [])) (
           test (now.pre (((nextC (x3, x4) (((rdEl (.prod (.int .i64) TTimer) x0 (Int.toNat x2))).2).1)), Unit.unit)) (
            cond (decide (((nextC (x3, x4) (((rdEl (.prod (.int .i64) TTimer) x0 (Int.toNat x2))).2).1)).1 < x3)) (
             some ((.c (.v (.bool false))), [])) (
             test (now.pre (((nextC (x3, x4) (((rdEl (.prod (.int .i64) TTimer) x0 (Int.toNat x2))).2).1)), Unit.unit)) (
              cond (decide (((nextC (x3, x4) (((rdEl (.prod (.int .i64) TTimer) x0 (Int.toNat x2))).2).1)).1 > (4611686018427387904 : Int))) (
               some ((.c (.v (.bool false))), [])) (
               test (allT.pre (((nextC (x3, x4) (((rdEl (.prod (.int .i64) TTimer) x0 (Int.toNat x2))).2).1)), Unit.unit)) (
                lTime.l2  m x0 x1 x2 ((nextC (x3, x4) (((rdEl (.prod (.int .i64) TTimer) x0 (Int.toNat x2))).2).1)).2 ((List.length ((nextC (x3, x4) (((rdEl (.prod (.int .i64) TTimer) x0 (Int.toNat x2))).2).1)).2) : Int) (0 : Int) ((nextC (x3, x4) (((rdEl (.prod (.int .i64) TTimer) x0 (Int.toNat x2))).2).1)).1 ((nextC (x3, x4) (((rdEl (.prod (.int .i64) TTimer) x0 (Int.toNat x2))).2).1)).2))))))) (
          test (now.pre (((nextC (x3, x4) (((rdEl (.prod (.int .i64) TTimer) x0 (Int.toNat x2))).2).1)), Unit.unit)) (
           cond (decide (((nextC (x3, x4) (((rdEl (.prod (.int .i64) TTimer) x0 (Int.toNat x2))).2).1)).1 < x3)) (
            some ((.c (.v (.bool false))), [])) (
            test (now.pre (((nextC (x3, x4) (((rdEl (.prod (.int .i64) TTimer) x0 (Int.toNat x2))).2).1)), Unit.unit)) (
             cond (decide (((nextC (x3, x4) (((rdEl (.prod (.int .i64) TTimer) x0 (Int.toNat x2))).2).1)).1 > (4611686018427387904 : Int))) (
              some ((.c (.v (.bool false))), [])) (
              test (allT.pre (((nextC (x3, x4) (((rdEl (.prod (.int .i64) TTimer) x0 (Int.toNat x2))).2).1)), Unit.unit)) (
               lTime.l2  m x0 x1 x2 ((nextC (x3, x4) (((rdEl (.prod (.int .i64) TTimer) x0 (Int.toNat x2))).2).1)).2 ((List.length ((nextC (x3, x4) (((rdEl (.prod (.int .i64) TTimer) x0 (Int.toNat x2))).2).1)).2) : Int) (0 : Int) ((nextC (x3, x4) (((rdEl (.prod (.int .i64) TTimer) x0 (Int.toNat x2))).2).1)).1 ((nextC (x3, x4) (((rdEl (.prod (.int .i64) TTimer) x0 (Int.toNat x2))).2).1)).2)))))))) (
        test (goTo.pre ((x3, x4), ((((rdEl (.prod (.int .i64) TTimer) x0 (Int.toNat x2))).2).1, Unit.unit))) (
         cond (goB (x3, x4) (((rdEl (.prod (.int .i64) TTimer) x0 (Int.toNat x2))).2).1) (
          test (now.pre (((goC (x3, x4) (((rdEl (.prod (.int .i64) TTimer) x0 (Int.toNat x2))).2).1)), Unit.unit)) (
           cond (bne ((goC (x3, x4) (((rdEl (.prod (.int .i64) TTimer) x0 (Int.toNat x2))).2).1)).1 (((rdEl (.prod (.int .i64) TTimer) x0 (Int.toNat x2))).2).1) (
            some ((.c (.v (.bool false))), [])) (
            test (now.pre (((goC (x3, x4) (((rdEl (.prod (.int .i64) TTimer) x0 (Int.toNat x2))).2).1)), Unit.unit)) (
             cond (decide (((goC (x3, x4) (((rdEl (.prod (.int .i64) TTimer) x0 (Int.toNat x2))).2).1)).1 < x3)) (
              some ((.c (.v (.bool false))), [])) (
              test (now.pre (((goC (x3, x4) (((rdEl (.prod (.int .i64) TTimer) x0 (Int.toNat x2))).2).1)), Unit.unit)) (
               cond (decide (((goC (x3, x4) (((rdEl (.prod (.int .i64) TTimer) x0 (Int.toNat x2))).2).1)).1 > (4611686018427387904 : Int))) (
                some ((.c (.v (.bool false))), [])) (
                test (allT.pre (((goC (x3, x4) (((rdEl (.prod (.int .i64) TTimer) x0 (Int.toNat x2))).2).1)), Unit.unit)) (
                 lTime.l2  m x0 x1 x2 ((goC (x3, x4) (((rdEl (.prod (.int .i64) TTimer) x0 (Int.toNat x2))).2).1)).2 ((List.length ((goC (x3, x4) (((rdEl (.prod (.int .i64) TTimer) x0 (Int.toNat x2))).2).1)).2) : Int) (0 : Int) ((goC (x3, x4) (((rdEl (.prod (.int .i64) TTimer) x0 (Int.toNat x2))).2).1)).1 ((goC (x3, x4) (((rdEl (.prod (.int .i64) TTimer) x0 (Int.toNat x2))).2).1)).2)))))))) (
          test (now.pre (((goC (x3, x4) (((rdEl (.prod (.int .i64) TTimer) x0 (Int.toNat x2))).2).1)), Unit.unit)) (
           cond (decide (((goC (x3, x4) (((rdEl (.prod (.int .i64) TTimer) x0 (Int.toNat x2))).2).1)).1 < x3)) (
            some ((.c (.v (.bool false))), [])) (
            test (now.pre (((goC (x3, x4) (((rdEl (.prod (.int .i64) TTimer) x0 (Int.toNat x2))).2).1)), Unit.unit)) (
             cond (decide (((goC (x3, x4) (((rdEl (.prod (.int .i64) TTimer) x0 (Int.toNat x2))).2).1)).1 > (4611686018427387904 : Int))) (
              some ((.c (.v (.bool false))), [])) (
              test (allT.pre (((goC (x3, x4) (((rdEl (.prod (.int .i64) TTimer) x0 (Int.toNat x2))).2).1)), Unit.unit)) (
               lTime.l2  m x0 x1 x2 ((goC (x3, x4) (((rdEl (.prod (.int .i64) TTimer) x0 (Int.toNat x2))).2).1)).2 ((List.length ((goC (x3, x4) (((rdEl (.prod (.int .i64) TTimer) x0 (Int.toNat x2))).2).1)).2) : Int) (0 : Int) ((goC (x3, x4) (((rdEl (.prod (.int .i64) TTimer) x0 (Int.toNat x2))).2).1)).1 ((goC (x3, x4) (((rdEl (.prod (.int .i64) TTimer) x0 (Int.toNat x2))).2).1)).2))))))))))))) (
   some ((.c (.v (.bool true))), [])) := by kernel_rfl
theorem lTime.s2  (m : Nat) (x0 : List (Int × (El TTimer))) (x1 : Int) (x2 : Int) (x3 : List (El TTimer)) (x4 : Int) (x5 : Int) (x6 : Int) (x7 : List (El TTimer)) : lTime.l2  (m + 1) x0 x1 x2 x3 x4 x5 x6 x7 =
  cond (decide (x5 < x4)) (
   test (decide ((0 : Int) ≤ x5)) (
    test (decide (x5 < ((List.length x3) : Int))) (
     test (now.pre ((x6, x7), Unit.unit)) (
      cond (decide (((rdEl TTimer x3 (Int.toNat x5))).1 < x6)) (
       some ((.c (.v (.bool false))), [])) (
       lTime.l2  m x0 x1 x2 x3 x4 (IntKind.i64.wrap (x5 + (1 : Int))) x6 x7))))) (
   lTime.l1  m x0 x1 (IntKind.i64.wrap (x2 + (1 : Int))) x6 x7) := by kernel_rfl
theorem lTime.run_eq  (m : Nat) (x0 : (List (Int × (El TTimer)))) : run (lTime.cfg ) Try.f3.ntmps Try.f3.results.toList m [.code (bodyOf Try.f3)] (enter (ivA lTime.ps (x0, ()))) = lTime.go  m x0 := by kernel_rfl
theorem lTime.ret  (hs : SpecsOK Try.prog (lTime.specs )) (ho : OSpecsOK Try.prog (lTime.ospecs )) (x0 : (List (Int × (El TTimer)))) {m : Nat} {r : IV} (h : lTime.go  m x0 = some (r, [])) : VE.Returns Try.prog 3 (ivA lTime.ps (x0, ())) r :=
  returns_of_run (cfg := lTime.cfg ) (cfgOK_of mixed tab_ok hs ho) rfl Try.func3 (body_some (by kernel_rfl)) (Nat.le_of_ble_eq_true (by kernel_rfl)) ((lTime.run_eq  m x0).trans h)
abbrev lTime.Law : Prop := ∀ (x0 : (List (Int × (El TTimer)))), lTime.pre (x0, ()) = true → VE.Returns Try.prog 3 (ivA lTime.ps (x0, ())) (lTime.res (x0, ()))
theorem lTime.mkR (H : ∀ (x0 : (List (Int × (El TTimer)))), lTime.pre (x0, ()) = true → VE.Returns Try.prog 3 (ivA lTime.ps (x0, ())) (lTime.res (x0, ()))) : SpecOK Try.prog 3 lTime.sp :=
  specOf_ret Try.func3 (by kernel_rfl) (by kernel_rfl) fun (x : (List (Int × (El TTimer))) × Unit) hx => H (x.1) hx
theorem lTime.mk  (hs : SpecsOK Try.prog (lTime.specs )) (ho : OSpecsOK Try.prog (lTime.ospecs )) (H : ∀ (x0 : (List (Int × (El TTimer)))), lTime.pre (x0, ()) = true → ∃ m, lTime.go  m x0 = some (lTime.res (x0, ()), [])) : SpecOK Try.prog 3 lTime.sp :=
  lTime.mkR fun x0 hx => (H x0 hx).elim fun _ hm => lTime.ret  hs ho x0 hm

/-! ### triage/triagelaw9.ClockRounds -/
abbrev lRounds.ps : List AK := [.d false (.int .i64), .d false (.int .i64)]
def lRounds.pre : ElA lRounds.ps → Bool := fun (x : Int × Int × Unit) => fits (.int .i64) (x.1) && (fits (.int .i64) (x.2.1) && (true))
def lRounds.res : ElA lRounds.ps → IV := fun (x : Int × Int × Unit) => (fun _ _ => vb true) x.1 x.2.1
def lRounds.sp : ISpec := spOf lRounds.ps lRounds.pre lRounds.res
abbrev lRounds.OK : Prop := SpecOK Try.prog 4 lRounds.sp
noncomputable def lRounds.body : Code := bodyOf Try.f4
noncomputable def lRounds.rs : List ResultVar := Try.f4.results.toList
def lRounds.live : List (Nat × Live) := [(6, ⟨[(0, .plain), (1, .plain), (5, .plain), (6, .plain)], [(41951232, [.plain, .arr 27 TTimer])]⟩)]
noncomputable def lRounds.specs  : List (Nat × (List Bool × ISpec)) := [(9, ([], awake.sp)), (11, ([], now.sp))]
noncomputable def lRounds.ospecs  : List (Nat × OS) := [(10, ⟨[], [], new.sp⟩), (12, ⟨[some (.obj [.plain, .arr 27 TTimer])], [], put.sp⟩), (13, ⟨[some (.obj [.plain, .arr 27 TTimer])], [], due.sp⟩), (14, ⟨[some (.obj [.plain, .arr 27 TTimer])], [], goTo.sp⟩)]
noncomputable def lRounds.cfg  : Cfg := ⟨lkp tab, lkp (lRounds.specs ), lkp lRounds.live, ⟨lkp (lRounds.ospecs ), [], none, false, []⟩⟩
noncomputable def lRounds.l1  (m : Nat) (x0 : Int) (x1 : Int) (x2 : Int) (x3 : Int) (x4 : List (El TTimer)) : R := run (lRounds.cfg ) 73 lRounds.rs m ((todoR 6 lRounds.body []).getD []) ⟨ofList (.c .junk) [(0, (.c (.v (.int .i64 x0)))), (1, (.c (.v (.int .i64 x1)))), (5, (.c (.ref 41951232 0))), (6, (.c (.v (.int .i64 x2))))], ofList none [(41951232, some (.cells 55 [(.v (.int .i64 x3)), (.sref 5369885698)])), (5369885698, some (.arr 27 TTimer x4 false))], ofList false [(41951232, true), (5369885698, true)]⟩
noncomputable def lRounds.go  (m : Nat) (x0 : Int) (x1 : Int) : R := run (lRounds.cfg ) 73 lRounds.rs m [.code lRounds.body] (enter (ivA lRounds.ps (x0, x1, ())))
theorem lRounds.start  (m : Nat) (x0 : Int) (x1 : Int) : lRounds.go  (m + 1) x0 x1 =
  cond (Bool.not (setOk ((timeC (0 : Int)), ([] : List (El TTimer))) ((IntKind.i64.wrap ((1 : Int) + (IntKind.i64.wrap (Int.tmod (IntKind.u64.wrap x0) (50 : Int))))), ((2 : Int), (1 : Int))))) (
   some ((.c (.v (.bool false))), [])) (
   lRounds.l1  m (IntKind.i64.wrap ((1 : Int) + (IntKind.i64.wrap (Int.tmod (IntKind.u64.wrap x0) (50 : Int))))) (IntKind.i64.wrap (Int.tmod (IntKind.u64.wrap x1) (2000 : Int))) (0 : Int) ((setC ((timeC (0 : Int)), ([] : List (El TTimer))) ((IntKind.i64.wrap ((1 : Int) + (IntKind.i64.wrap (Int.tmod (IntKind.u64.wrap x0) (50 : Int))))), ((2 : Int), (1 : Int))))).1 ((setC ((timeC (0 : Int)), ([] : List (El TTimer))) ((IntKind.i64.wrap ((1 : Int) + (IntKind.i64.wrap (Int.tmod (IntKind.u64.wrap x0) (50 : Int))))), ((2 : Int), (1 : Int))))).2) := by kernel_rfl
theorem lRounds.s1  (m : Nat) (x0 : Int) (x1 : Int) (x2 : Int) (x3 : Int) (x4 : List (El TTimer)) : lRounds.l1  (m + 1) x0 x1 x2 x3 x4 =
  test (due.pre ((x3, x4), (x1, Unit.unit))) (
   cond (Bool.not (dueB (x3, x4) x1)) (
    test (Bool.not (decide (x0 = (0 : Int)))) (
     cond (x2 == (IntKind.i64.wrap (Int.tdiv x1 x0))) (
      test (goTo.pre (((nextC (x3, x4) x1)), (x1, Unit.unit))) (
       cond (goB ((nextC (x3, x4) x1)) x1) (
        test (now.pre (((goC ((nextC (x3, x4) x1)) x1)), Unit.unit)) (
         cond (((goC ((nextC (x3, x4) x1)) x1)).1 == x1) (
          some ((.c (.v (.bool true))), [])) (
          some ((.c (.v (.bool false))), [])))) (
        some ((.c (.v (.bool false))), [])))) (
      some ((.c (.v (.bool false))), [])))) (
    cond (bne ((nextT (x3, x4) x1)).1 (IntKind.i64.wrap ((IntKind.i64.wrap (x2 + (1 : Int))) * x0))) (
     some ((.c (.v (.bool false))), [])) (
     cond (decide ((IntKind.i64.wrap (x2 + (1 : Int))) > (2000 : Int))) (
      some ((.c (.v (.bool false))), [])) (
      test (put.pre (((nextC (x3, x4) x1)), (((IntKind.i64.wrap (((nextT (x3, x4) x1)).1 + x0)), ((2 : Int), (1 : Int))), Unit.unit))) (
       cond (Bool.not (setOk ((nextC (x3, x4) x1)) ((IntKind.i64.wrap (((nextT (x3, x4) x1)).1 + x0)), ((2 : Int), (1 : Int))))) (
        some ((.c (.v (.bool false))), [])) (
        lRounds.l1  m x0 x1 (IntKind.i64.wrap (x2 + (1 : Int))) ((setC ((nextC (x3, x4) x1)) ((IntKind.i64.wrap (((nextT (x3, x4) x1)).1 + x0)), ((2 : Int), (1 : Int))))).1 ((setC ((nextC (x3, x4) x1)) ((IntKind.i64.wrap (((nextT (x3, x4) x1)).1 + x0)), ((2 : Int), (1 : Int))))).2)))))) := by kernel_rfl
theorem lRounds.run_eq  (m : Nat) (x0 : Int) (x1 : Int) : run (lRounds.cfg ) Try.f4.ntmps Try.f4.results.toList m [.code (bodyOf Try.f4)] (enter (ivA lRounds.ps (x0, x1, ()))) = lRounds.go  m x0 x1 := by kernel_rfl
theorem lRounds.ret  (hs : SpecsOK Try.prog (lRounds.specs )) (ho : OSpecsOK Try.prog (lRounds.ospecs )) (x0 : Int) (x1 : Int) {m : Nat} {r : IV} (h : lRounds.go  m x0 x1 = some (r, [])) : VE.Returns Try.prog 4 (ivA lRounds.ps (x0, x1, ())) r :=
  returns_of_run (cfg := lRounds.cfg ) (cfgOK_of mixed tab_ok hs ho) rfl Try.func4 (body_some (by kernel_rfl)) (Nat.le_of_ble_eq_true (by kernel_rfl)) ((lRounds.run_eq  m x0 x1).trans h)
abbrev lRounds.Law : Prop := ∀ (x0 : Int) (x1 : Int), lRounds.pre (x0, x1, ()) = true → VE.Returns Try.prog 4 (ivA lRounds.ps (x0, x1, ())) (lRounds.res (x0, x1, ()))
theorem lRounds.mkR (H : ∀ (x0 : Int) (x1 : Int), lRounds.pre (x0, x1, ()) = true → VE.Returns Try.prog 4 (ivA lRounds.ps (x0, x1, ())) (lRounds.res (x0, x1, ()))) : SpecOK Try.prog 4 lRounds.sp :=
  specOf_ret Try.func4 (by kernel_rfl) (by kernel_rfl) fun (x : Int × Int × Unit) hx => H (x.1) (x.2.1) hx
theorem lRounds.mk  (hs : SpecsOK Try.prog (lRounds.specs )) (ho : OSpecsOK Try.prog (lRounds.ospecs )) (H : ∀ (x0 : Int) (x1 : Int), lRounds.pre (x0, x1, ()) = true → ∃ m, lRounds.go  m x0 x1 = some (lRounds.res (x0, x1, ()), [])) : SpecOK Try.prog 4 lRounds.sp :=
  lRounds.mkR fun x0 x1 hx => (H x0 x1 hx).elim fun _ hm => lRounds.ret  hs ho x0 x1 hm

/-! ### triage/triagelaw9.ClockAnew -/
abbrev lAnew.ps : List AK := [.d false (.int .i64), .d false (.int .i64), .d false (.sl (.int .i64))]
def lAnew.pre : ElA lAnew.ps → Bool := fun (x : Int × Int × (List Int) × Unit) => fits (.int .i64) (x.1) && (fits (.int .i64) (x.2.1) && (fits (.sl (.int .i64)) (x.2.2.1) && (true)))
def lAnew.res : ElA lAnew.ps → IV := fun (x : Int × Int × (List Int) × Unit) => (fun _ _ _ => vb true) x.1 x.2.1 x.2.2.1
def lAnew.sp : ISpec := spOf lAnew.ps lAnew.pre lAnew.res
abbrev lAnew.OK : Prop := SpecOK Try.prog 8 lAnew.sp
noncomputable def lAnew.body : Code := bodyOf Try.f8
noncomputable def lAnew.rs : List ResultVar := Try.f8.results.toList
def lAnew.live : List (Nat × Live) := [(9, ⟨[(0, .plain), (1, .plain), (7, .plain), (9, .plain), (29, .sl (.int .i64)), (30, .plain), (31, .plain)], [(46145536, [.plain, .arr 27 TTimer])]⟩)]
noncomputable def lAnew.specs  : List (Nat × (List Bool × ISpec)) := [(9, ([], awake.sp))]
noncomputable def lAnew.ospecs  : List (Nat × OS) := [(10, ⟨[], [], new.sp⟩), (12, ⟨[some (.obj [.plain, .arr 27 TTimer])], [], put.sp⟩), (22, ⟨[some (.obj [.plain, .arr 27 TTimer])], [], when.sp⟩), (18, ⟨[some (.obj [.plain, .arr 27 TTimer])], [], cut.sp⟩), (15, ⟨[some (.obj [.plain, .arr 27 TTimer])], [], allT.sp⟩)]
noncomputable def lAnew.cfg  : Cfg := ⟨lkp tab, lkp (lAnew.specs ), lkp lAnew.live, ⟨lkp (lAnew.ospecs ), [], none, false, []⟩⟩
noncomputable def lAnew.l1  (m : Nat) (x0 : Int) (x1 : Int) (x2 : Int) (x3 : List Int) (x4 : Int) (x5 : Int) (x6 : Int) (x7 : List (El TTimer)) : R := run (lAnew.cfg ) 106 lAnew.rs m ((todoR 9 lAnew.body []).getD []) ⟨ofList (.c .junk) [(0, (.c (.v (.int .i64 x0)))), (1, (.c (.v (.int .i64 x1)))), (7, (.c (.ref 46145536 0))), (9, (.c (.v (.int .i64 x2)))), (29, (.c (.sl (.int .i64) x3))), (30, (.c (.v (.int .i64 x4)))), (31, (.c (.v (.int .i64 x5))))], ofList none [(46145536, some (.cells 55 [(.v (.int .i64 x6)), (.sref 5906756610)])), (5906756610, some (.arr 27 TTimer x7 false))], ofList false [(46145536, true), (5906756610, true)]⟩
noncomputable def lAnew.go  (m : Nat) (x0 : Int) (x1 : Int) (x2 : (List Int)) : R := run (lAnew.cfg ) 106 lAnew.rs m [.code lAnew.body] (enter (ivA lAnew.ps (x0, x1, x2, ())))
theorem lAnew.start  (m : Nat) (x0 : Int) (x1 : Int) (x2 : (List Int)) : lAnew.go  (m + 1) x0 x1 x2 =
  cond (decide (((List.length x2) : Int) > (60 : Int))) (
   some ((.c (.v (.bool true))), [])) (
   lAnew.l1  m x0 x1 (-(1 : Int)) x2 ((List.length x2) : Int) (0 : Int) ((setC ((timeC (0 : Int)), ([] : List (El TTimer))) ((77 : Int), ((IntKind.i64.wrap ((BitVec.toNat ((BitVec.ofInt (Go.IntKind.bits Go.IntKind.i64) x0) ^^^ (BitVec.ofInt (Go.IntKind.bits Go.IntKind.i64) (1 : Int)))) : Int)), x1)))).1 ((setC ((timeC (0 : Int)), ([] : List (El TTimer))) ((77 : Int), ((IntKind.i64.wrap ((BitVec.toNat ((BitVec.ofInt (Go.IntKind.bits Go.IntKind.i64) x0) ^^^ (BitVec.ofInt (Go.IntKind.bits Go.IntKind.i64) (1 : Int)))) : Int)), x1)))).2) := by kernel_rfl
theorem lAnew.s1  (m : Nat) (x0 : Int) (x1 : Int) (x2 : Int) (x3 : List Int) (x4 : Int) (x5 : Int) (x6 : Int) (x7 : List (El TTimer)) : lAnew.l1  (m + 1) x0 x1 x2 x3 x4 x5 x6 x7 =
  cond (decide (x5 < x4)) (
   test (decide ((0 : Int) ≤ x5)) (
    test (decide (x5 < ((List.length x3) : Int))) (
     test (put.pre ((x6, x7), (((IntKind.i64.wrap (Int.tmod (IntKind.u64.wrap (rdEl (.int .i64) x3 (Int.toNat x5))) (1000 : Int))), (x0, x1)), Unit.unit))) (
      cond (Bool.not (setOk (x6, x7) ((IntKind.i64.wrap (Int.tmod (IntKind.u64.wrap (rdEl (.int .i64) x3 (Int.toNat x5))) (1000 : Int))), (x0, x1)))) (
       some ((.c (.v (.bool false))), [])) (
       test (when.pre (((setC (x6, x7) ((IntKind.i64.wrap (Int.tmod (IntKind.u64.wrap (rdEl (.int .i64) x3 (Int.toNat x5))) (1000 : Int))), (x0, x1)))), (x0, (x1, Unit.unit)))) (
        cond (Bool.not (hasK ((setC (x6, x7) ((IntKind.i64.wrap (Int.tmod (IntKind.u64.wrap (rdEl (.int .i64) x3 (Int.toNat x5))) (1000 : Int))), (x0, x1)))).2 x0 x1)) (
         some ((.c (.v (.bool false))), [])) (
         cond (bne (atI ((setC (x6, x7) ((IntKind.i64.wrap (Int.tmod (IntKind.u64.wrap (rdEl (.int .i64) x3 (Int.toNat x5))) (1000 : Int))), (x0, x1)))) x0 x1) (IntKind.i64.wrap (Int.tmod (IntKind.u64.wrap (rdEl (.int .i64) x3 (Int.toNat x5))) (1000 : Int)))) (
          some ((.c (.v (.bool false))), [])) (
          test (allT.pre (((setC (x6, x7) ((IntKind.i64.wrap (Int.tmod (IntKind.u64.wrap (rdEl (.int .i64) x3 (Int.toNat x5))) (1000 : Int))), (x0, x1)))), Unit.unit)) (
           cond (bne ((List.length ((setC (x6, x7) ((IntKind.i64.wrap (Int.tmod (IntKind.u64.wrap (rdEl (.int .i64) x3 (Int.toNat x5))) (1000 : Int))), (x0, x1)))).2) : Int) (2 : Int)) (
            some ((.c (.v (.bool false))), [])) (
            lAnew.l1  m x0 x1 (IntKind.i64.wrap (Int.tmod (IntKind.u64.wrap (rdEl (.int .i64) x3 (Int.toNat x5))) (1000 : Int))) x3 x4 (IntKind.i64.wrap (x5 + (1 : Int))) ((setC (x6, x7) ((IntKind.i64.wrap (Int.tmod (IntKind.u64.wrap (rdEl (.int .i64) x3 (Int.toNat x5))) (1000 : Int))), (x0, x1)))).1 ((setC (x6, x7) ((IntKind.i64.wrap (Int.tmod (IntKind.u64.wrap (rdEl (.int .i64) x3 (Int.toNat x5))) (1000 : Int))), (x0, x1)))).2)))))))))) (
   test (when.pre ((x6, x7), ((IntKind.i64.wrap ((BitVec.toNat ((BitVec.ofInt (Go.IntKind.bits Go.IntKind.i64) x0) ^^^ (BitVec.ofInt (Go.IntKind.bits Go.IntKind.i64) (1 : Int)))) : Int)), (x1, Unit.unit)))) (
    test (cut.pre ((x6, x7), (x0, (x1, Unit.unit)))) (
     cond ((hasK x7 x0 x1) == (decide (x2 ≥ (0 : Int)))) (
      test (cut.pre (((cutC (x6, x7) x0 x1)), (x0, (x1, Unit.unit)))) (
       cond (Bool.not (hasK ((cutC (x6, x7) x0 x1)).2 x0 x1)) (
        cond (hasK x7 (IntKind.i64.wrap ((BitVec.toNat ((BitVec.ofInt (Go.IntKind.bits Go.IntKind.i64) x0) ^^^ (BitVec.ofInt (Go.IntKind.bits Go.IntKind.i64) (1 : Int)))) : Int)) x1) (
         cond ((atI (x6, x7) (IntKind.i64.wrap ((BitVec.toNat ((BitVec.ofInt (Go.IntKind.bits Go.IntKind.i64) x0) ^^^ (BitVec.ofInt (Go.IntKind.bits Go.IntKind.i64) (1 : Int)))) : Int)) x1) == (77 : Int)) (
          test (allT.pre (((cutC ((cutC (x6, x7) x0 x1)) x0 x1)), Unit.unit)) (
           cond (((List.length ((cutC ((cutC (x6, x7) x0 x1)) x0 x1)).2) : Int) == (1 : Int)) (
            some ((.c (.v (.bool true))), [])) (
            some ((.c (.v (.bool false))), [])))) (
          some ((.c (.v (.bool false))), []))) (
         some ((.c (.v (.bool false))), []))) (
        some ((.c (.v (.bool false))), [])))) (
      some ((.c (.v (.bool false))), []))))) := by kernel_rfl
theorem lAnew.run_eq  (m : Nat) (x0 : Int) (x1 : Int) (x2 : (List Int)) : run (lAnew.cfg ) Try.f8.ntmps Try.f8.results.toList m [.code (bodyOf Try.f8)] (enter (ivA lAnew.ps (x0, x1, x2, ()))) = lAnew.go  m x0 x1 x2 := by kernel_rfl
theorem lAnew.ret  (hs : SpecsOK Try.prog (lAnew.specs )) (ho : OSpecsOK Try.prog (lAnew.ospecs )) (x0 : Int) (x1 : Int) (x2 : (List Int)) {m : Nat} {r : IV} (h : lAnew.go  m x0 x1 x2 = some (r, [])) : VE.Returns Try.prog 8 (ivA lAnew.ps (x0, x1, x2, ())) r :=
  returns_of_run (cfg := lAnew.cfg ) (cfgOK_of mixed tab_ok hs ho) rfl Try.func8 (body_some (by kernel_rfl)) (Nat.le_of_ble_eq_true (by kernel_rfl)) ((lAnew.run_eq  m x0 x1 x2).trans h)
abbrev lAnew.Law : Prop := ∀ (x0 : Int) (x1 : Int) (x2 : (List Int)), lAnew.pre (x0, x1, x2, ()) = true → VE.Returns Try.prog 8 (ivA lAnew.ps (x0, x1, x2, ())) (lAnew.res (x0, x1, x2, ()))
theorem lAnew.mkR (H : ∀ (x0 : Int) (x1 : Int) (x2 : (List Int)), lAnew.pre (x0, x1, x2, ()) = true → VE.Returns Try.prog 8 (ivA lAnew.ps (x0, x1, x2, ())) (lAnew.res (x0, x1, x2, ()))) : SpecOK Try.prog 8 lAnew.sp :=
  specOf_ret Try.func8 (by kernel_rfl) (by kernel_rfl) fun (x : Int × Int × (List Int) × Unit) hx => H (x.1) (x.2.1) (x.2.2.1) hx
theorem lAnew.mk  (hs : SpecsOK Try.prog (lAnew.specs )) (ho : OSpecsOK Try.prog (lAnew.ospecs )) (H : ∀ (x0 : Int) (x1 : Int) (x2 : (List Int)), lAnew.pre (x0, x1, x2, ()) = true → ∃ m, lAnew.go  m x0 x1 x2 = some (lAnew.res (x0, x1, x2, ()), [])) : SpecOK Try.prog 8 lAnew.sp :=
  lAnew.mkR fun x0 x1 x2 hx => (H x0 x1 x2 hx).elim fun _ hm => lAnew.ret  hs ho x0 x1 x2 hm

end Go.Proofs.Ythlbiibholhkmaa
