/-
  Steps of the bodies, from checkpoint to checkpoint (printed by wip/VE/mk2.py).
-/
import Derived.Test.YtdoilggfajngiaaHF
import Derived.Test.YtdoilggfajngiaaSA
namespace Go.Proofs.Ytdoilggfajngiaa
open Go VE

/-! ### triage/probe.New -/
abbrev probeNew.ps : List AK := []
def probeNew.pre : ElA probeNew.ps → Bool := fun (x : Unit) => true
def probeNew.res : ElA probeNew.ps → IV := fun (x : Unit) => (mkIV true (enc TQ (true, 0, 0, 0))) 
def probeNew.sp : ISpec := spOf probeNew.ps probeNew.pre probeNew.res
abbrev probeNew.OK : Prop := SpecOK Try.prog 36 probeNew.sp
noncomputable def probeNew.body : Code := bodyOf Try.f36
noncomputable def probeNew.rs : List ResultVar := Try.f36.results.toList
def probeNew.live : List (Nat × Live) := []
noncomputable def probeNew.specs  : List (Nat × (List Bool × ISpec)) := []
noncomputable def probeNew.ospecs  : List (Nat × OS) := []
noncomputable def probeNew.cfg  : Cfg := ⟨lkp tab, lkp (probeNew.specs ), lkp probeNew.live, ⟨lkp (probeNew.ospecs ), [], none, false, []⟩⟩
noncomputable def probeNew.go  (m : Nat)  : R := run (probeNew.cfg ) 2 probeNew.rs m [.code probeNew.body] (enter (ivA probeNew.ps ()))
theorem probeNew.start  (m : Nat)  : probeNew.go  (m + 1)  =
  some ((.agg [(.v (.bool true)), (.v (.int .i64 (0 : Int))), (.v (.int .i64 (0 : Int))), (.v (.int .i64 (0 : Int)))]), []) := by kernel_rfl
theorem probeNew.run_eq  (m : Nat)  : run (probeNew.cfg ) Try.f36.ntmps Try.f36.results.toList m [.code (bodyOf Try.f36)] (enter (ivA probeNew.ps ())) = probeNew.go  m  := by kernel_rfl
theorem probeNew.ret  (hs : SpecsOK Try.prog (probeNew.specs ))   {m : Nat} {r : IV} (h : probeNew.go  m  = some (r, [])) : VE.Returns Try.prog 36 (ivA probeNew.ps ()) r :=
  returns_of_run (cfg := probeNew.cfg ) (cfgOK_of mixed tab_ok hs .nil) rfl Try.func36 (body_some (by kernel_rfl)) (Nat.le_of_ble_eq_true (by kernel_rfl)) ((probeNew.run_eq  m ).trans h)
abbrev probeNew.Law : Prop := ∀ (_ : Unit), probeNew.pre () = true → VE.Returns Try.prog 36 (ivA probeNew.ps ()) (probeNew.res ())
theorem probeNew.mkR (H : ∀ (_ : Unit), probeNew.pre () = true → VE.Returns Try.prog 36 (ivA probeNew.ps ()) (probeNew.res ())) : SpecOK Try.prog 36 probeNew.sp :=
  specOf_ret Try.func36 (by kernel_rfl) (by kernel_rfl) fun (x : Unit) hx => H () hx
theorem probeNew.mk  (hs : SpecsOK Try.prog (probeNew.specs ))  (H : ∀ (_ : Unit), probeNew.pre () = true → ∃ m, probeNew.go  m  = some (probeNew.res (), [])) : SpecOK Try.prog 36 probeNew.sp :=
  probeNew.mkR fun _ hx => (H () hx).elim fun _ hm => probeNew.ret  hs   hm

/-! ### triage/probe.Well -/
abbrev well.ps : List AK := [.d true TQ]
def well.pre : ElA well.ps → Bool := fun (x : (El TQ) × Unit) => fits TQ (x.1) && (true)
def well.res : ElA well.ps → IV := fun (x : (El TQ) × Unit) => (fun p => vb (wellB p)) x.1
def well.sp : ISpec := spOf well.ps well.pre well.res
abbrev well.OK : Prop := SpecOK Try.prog 33 well.sp
noncomputable def well.body : Code := bodyOf Try.f33
noncomputable def well.rs : List ResultVar := Try.f33.results.toList
def well.live : List (Nat × Live) := []
noncomputable def well.specs  : List (Nat × (List Bool × ISpec)) := []
noncomputable def well.ospecs  : List (Nat × OS) := []
noncomputable def well.cfg  : Cfg := ⟨lkp tab, lkp (well.specs ), lkp well.live, ⟨lkp (well.ospecs ), [], none, false, []⟩⟩
noncomputable def well.go  (m : Nat) (x0 : (El TQ)) : R := run (well.cfg ) 15 well.rs m [.code well.body] (enter (ivA well.ps (x0, ())))
theorem well.start  (m : Nat) (x0 : (El TQ)) : well.go  (m + 1) x0 =
  cond (x0.2.2.1 == (2 : Int)) (
   some ((.c (.v (.bool true))), [])) (
   cond (x0.2.2.1 == (0 : Int)) (
    some ((.c (.v (.bool x0.1))), [])) (
    some ((.c (.v (.bool false))), []))) := by kernel_rfl
theorem well.run_eq  (m : Nat) (x0 : (El TQ)) : run (well.cfg ) Try.f33.ntmps Try.f33.results.toList m [.code (bodyOf Try.f33)] (enter (ivA well.ps (x0, ()))) = well.go  m x0 := by kernel_rfl
theorem well.ret  (hs : SpecsOK Try.prog (well.specs ))  (x0 : (El TQ)) {m : Nat} {r : IV} (h : well.go  m x0 = some (r, [])) : VE.Returns Try.prog 33 (ivA well.ps (x0, ())) r :=
  returns_of_run (cfg := well.cfg ) (cfgOK_of mixed tab_ok hs .nil) rfl Try.func33 (body_some (by kernel_rfl)) (Nat.le_of_ble_eq_true (by kernel_rfl)) ((well.run_eq  m x0).trans h)
abbrev well.Law : Prop := ∀ (x0 : (El TQ)), well.pre (x0, ()) = true → VE.Returns Try.prog 33 (ivA well.ps (x0, ())) (well.res (x0, ()))
theorem well.mkR (H : ∀ (x0 : (El TQ)), well.pre (x0, ()) = true → VE.Returns Try.prog 33 (ivA well.ps (x0, ())) (well.res (x0, ()))) : SpecOK Try.prog 33 well.sp :=
  specOf_ret Try.func33 (by kernel_rfl) (by kernel_rfl) fun (x : (El TQ) × Unit) hx => H (x.1) hx
theorem well.mk  (hs : SpecsOK Try.prog (well.specs ))  (H : ∀ (x0 : (El TQ)), well.pre (x0, ()) = true → ∃ m, well.go  m x0 = some (well.res (x0, ()), [])) : SpecOK Try.prog 33 well.sp :=
  well.mkR fun x0 hx => (H x0 hx).elim fun _ hm => well.ret  hs  x0 hm

/-! ### triage/triageref10.Well -/
abbrev wellR.ps : List AK := [.d true TQ]
def wellR.pre : ElA wellR.ps → Bool := fun (x : (El TQ) × Unit) => fits TQ (x.1) && (true)
def wellR.res : ElA wellR.ps → IV := fun (x : (El TQ) × Unit) => (fun p => vb (wellB p)) x.1
def wellR.sp : ISpec := spOf wellR.ps wellR.pre wellR.res
abbrev wellR.OK : Prop := SpecOK Try.prog 47 wellR.sp
noncomputable def wellR.body : Code := bodyOf Try.f47
noncomputable def wellR.rs : List ResultVar := Try.f47.results.toList
def wellR.live : List (Nat × Live) := []
noncomputable def wellR.specs  : List (Nat × (List Bool × ISpec)) := []
noncomputable def wellR.ospecs  : List (Nat × OS) := []
noncomputable def wellR.cfg  : Cfg := ⟨lkp tab, lkp (wellR.specs ), lkp wellR.live, ⟨lkp (wellR.ospecs ), [], none, false, []⟩⟩
noncomputable def wellR.go  (m : Nat) (x0 : (El TQ)) : R := run (wellR.cfg ) 15 wellR.rs m [.code wellR.body] (enter (ivA wellR.ps (x0, ())))
theorem wellR.start  (m : Nat) (x0 : (El TQ)) : wellR.go  (m + 1) x0 =
  cond (x0.2.2.1 == (2 : Int)) (
   some ((.c (.v (.bool true))), [])) (
   cond (x0.2.2.1 == (0 : Int)) (
    some ((.c (.v (.bool x0.1))), [])) (
    some ((.c (.v (.bool false))), []))) := by kernel_rfl
theorem wellR.run_eq  (m : Nat) (x0 : (El TQ)) : run (wellR.cfg ) Try.f47.ntmps Try.f47.results.toList m [.code (bodyOf Try.f47)] (enter (ivA wellR.ps (x0, ()))) = wellR.go  m x0 := by kernel_rfl
theorem wellR.ret  (hs : SpecsOK Try.prog (wellR.specs ))  (x0 : (El TQ)) {m : Nat} {r : IV} (h : wellR.go  m x0 = some (r, [])) : VE.Returns Try.prog 47 (ivA wellR.ps (x0, ())) r :=
  returns_of_run (cfg := wellR.cfg ) (cfgOK_of mixed tab_ok hs .nil) rfl Try.func47 (body_some (by kernel_rfl)) (Nat.le_of_ble_eq_true (by kernel_rfl)) ((wellR.run_eq  m x0).trans h)
abbrev wellR.Law : Prop := ∀ (x0 : (El TQ)), wellR.pre (x0, ()) = true → VE.Returns Try.prog 47 (ivA wellR.ps (x0, ())) (wellR.res (x0, ()))
theorem wellR.mkR (H : ∀ (x0 : (El TQ)), wellR.pre (x0, ()) = true → VE.Returns Try.prog 47 (ivA wellR.ps (x0, ())) (wellR.res (x0, ()))) : SpecOK Try.prog 47 wellR.sp :=
  specOf_ret Try.func47 (by kernel_rfl) (by kernel_rfl) fun (x : (El TQ) × Unit) hx => H (x.1) hx
theorem wellR.mk  (hs : SpecsOK Try.prog (wellR.specs ))  (H : ∀ (x0 : (El TQ)), wellR.pre (x0, ()) = true → ∃ m, wellR.go  m x0 = some (wellR.res (x0, ()), [])) : SpecOK Try.prog 47 wellR.sp :=
  wellR.mkR fun x0 hx => (H x0 hx).elim fun _ hm => wellR.ret  hs  x0 hm

/-! ### triage/state.isTime -/
abbrev isTime.ps : List AK := [.d false (.int .i64)]
def isTime.pre : ElA isTime.ps → Bool := fun (x : Int × Unit) => fits (.int .i64) (x.1) && (true)
def isTime.res : ElA isTime.ps → IV := fun (x : Int × Unit) => (fun n => vb (isTimeB n)) x.1
def isTime.sp : ISpec := spOf isTime.ps isTime.pre isTime.res
abbrev isTime.OK : Prop := SpecOK Try.prog 52 isTime.sp
noncomputable def isTime.body : Code := bodyOf Try.f52
noncomputable def isTime.rs : List ResultVar := Try.f52.results.toList
def isTime.live : List (Nat × Live) := []
noncomputable def isTime.specs  : List (Nat × (List Bool × ISpec)) := []
noncomputable def isTime.ospecs  : List (Nat × OS) := []
noncomputable def isTime.cfg  : Cfg := ⟨lkp tab, lkp (isTime.specs ), lkp isTime.live, ⟨lkp (isTime.ospecs ), [], none, false, []⟩⟩
noncomputable def isTime.go  (m : Nat) (x0 : Int) : R := run (isTime.cfg ) 9 isTime.rs m [.code isTime.body] (enter (ivA isTime.ps (x0, ())))
theorem isTime.start  (m : Nat) (x0 : Int) : isTime.go  (m + 1) x0 =
  cond (decide (x0 ≥ (0 : Int))) (
   some ((.c (.v (.bool (decide (x0 ≤ (4611686018427387904 : Int)))))), [])) (
   some ((.c (.v (.bool false))), [])) := by kernel_rfl
theorem isTime.run_eq  (m : Nat) (x0 : Int) : run (isTime.cfg ) Try.f52.ntmps Try.f52.results.toList m [.code (bodyOf Try.f52)] (enter (ivA isTime.ps (x0, ()))) = isTime.go  m x0 := by kernel_rfl
theorem isTime.ret  (hs : SpecsOK Try.prog (isTime.specs ))  (x0 : Int) {m : Nat} {r : IV} (h : isTime.go  m x0 = some (r, [])) : VE.Returns Try.prog 52 (ivA isTime.ps (x0, ())) r :=
  returns_of_run (cfg := isTime.cfg ) (cfgOK_of mixed tab_ok hs .nil) rfl Try.func52 (body_some (by kernel_rfl)) (Nat.le_of_ble_eq_true (by kernel_rfl)) ((isTime.run_eq  m x0).trans h)
abbrev isTime.Law : Prop := ∀ (x0 : Int), isTime.pre (x0, ()) = true → VE.Returns Try.prog 52 (ivA isTime.ps (x0, ())) (isTime.res (x0, ()))
theorem isTime.mkR (H : ∀ (x0 : Int), isTime.pre (x0, ()) = true → VE.Returns Try.prog 52 (ivA isTime.ps (x0, ())) (isTime.res (x0, ()))) : SpecOK Try.prog 52 isTime.sp :=
  specOf_ret Try.func52 (by kernel_rfl) (by kernel_rfl) fun (x : Int × Unit) hx => H (x.1) hx
theorem isTime.mk  (hs : SpecsOK Try.prog (isTime.specs ))  (H : ∀ (x0 : Int), isTime.pre (x0, ()) = true → ∃ m, isTime.go  m x0 = some (isTime.res (x0, ()), [])) : SpecOK Try.prog 52 isTime.sp :=
  isTime.mkR fun x0 hx => (H x0 hx).elim fun _ hm => isTime.ret  hs  x0 hm

/-! ### triage/triageref10.time -/
abbrev timeR.ps : List AK := [.d false (.int .i64)]
def timeR.pre : ElA timeR.ps → Bool := fun (x : Int × Unit) => fits (.int .i64) (x.1) && (true)
def timeR.res : ElA timeR.ps → IV := fun (x : Int × Unit) => (fun n => vi .i64 (timeI n)) x.1
def timeR.sp : ISpec := spOf timeR.ps timeR.pre timeR.res
abbrev timeR.OK : Prop := SpecOK Try.prog 40 timeR.sp
noncomputable def timeR.body : Code := bodyOf Try.f40
noncomputable def timeR.rs : List ResultVar := Try.f40.results.toList
def timeR.live : List (Nat × Live) := []
noncomputable def timeR.specs  : List (Nat × (List Bool × ISpec)) := []
noncomputable def timeR.ospecs  : List (Nat × OS) := []
noncomputable def timeR.cfg  : Cfg := ⟨lkp tab, lkp (timeR.specs ), lkp timeR.live, ⟨lkp (timeR.ospecs ), [], none, false, []⟩⟩
noncomputable def timeR.go  (m : Nat) (x0 : Int) : R := run (timeR.cfg ) 6 timeR.rs m [.code timeR.body] (enter (ivA timeR.ps (x0, ())))
theorem timeR.start  (m : Nat) (x0 : Int) : timeR.go  (m + 1) x0 =
  some ((.c (.v (.int .i64 (ite ((ite ((4611686018427387904 : Int) < x0) (4611686018427387904 : Int) x0) > (0 : Int)) (ite ((4611686018427387904 : Int) < x0) (4611686018427387904 : Int) x0) (0 : Int))))), []) := by kernel_rfl
theorem timeR.run_eq  (m : Nat) (x0 : Int) : run (timeR.cfg ) Try.f40.ntmps Try.f40.results.toList m [.code (bodyOf Try.f40)] (enter (ivA timeR.ps (x0, ()))) = timeR.go  m x0 := by kernel_rfl
theorem timeR.ret  (hs : SpecsOK Try.prog (timeR.specs ))  (x0 : Int) {m : Nat} {r : IV} (h : timeR.go  m x0 = some (r, [])) : VE.Returns Try.prog 40 (ivA timeR.ps (x0, ())) r :=
  returns_of_run (cfg := timeR.cfg ) (cfgOK_of mixed tab_ok hs .nil) rfl Try.func40 (body_some (by kernel_rfl)) (Nat.le_of_ble_eq_true (by kernel_rfl)) ((timeR.run_eq  m x0).trans h)
abbrev timeR.Law : Prop := ∀ (x0 : Int), timeR.pre (x0, ()) = true → VE.Returns Try.prog 40 (ivA timeR.ps (x0, ())) (timeR.res (x0, ()))
theorem timeR.mkR (H : ∀ (x0 : Int), timeR.pre (x0, ()) = true → VE.Returns Try.prog 40 (ivA timeR.ps (x0, ())) (timeR.res (x0, ()))) : SpecOK Try.prog 40 timeR.sp :=
  specOf_ret Try.func40 (by kernel_rfl) (by kernel_rfl) fun (x : Int × Unit) hx => H (x.1) hx
theorem timeR.mk  (hs : SpecsOK Try.prog (timeR.specs ))  (H : ∀ (x0 : Int), timeR.pre (x0, ()) = true → ∃ m, timeR.go  m x0 = some (timeR.res (x0, ()), [])) : SpecOK Try.prog 40 timeR.sp :=
  timeR.mkR fun x0 hx => (H x0 hx).elim fun _ hm => timeR.ret  hs  x0 hm

/-! ### triage/state.may -/
abbrev mayOne.ps : List AK := [.d true TStatus]
def mayOne.pre : ElA mayOne.ps → Bool := fun (x : (El TStatus) × Unit) => fits TStatus (x.1) && (true)
def mayOne.res : ElA mayOne.ps → IV := fun (x : (El TStatus) × Unit) => (fun s => vb (mayOneB s)) x.1
def mayOne.sp : ISpec := spOf mayOne.ps mayOne.pre mayOne.res
abbrev mayOne.OK : Prop := SpecOK Try.prog 37 mayOne.sp
noncomputable def mayOne.body : Code := bodyOf Try.f37
noncomputable def mayOne.rs : List ResultVar := Try.f37.results.toList
def mayOne.live : List (Nat × Live) := []
noncomputable def mayOne.specs  : List (Nat × (List Bool × ISpec)) := [(51, ([], may.sp)), (52, ([], isTime.sp))]
noncomputable def mayOne.ospecs  : List (Nat × OS) := []
noncomputable def mayOne.cfg  : Cfg := ⟨lkp tab, lkp (mayOne.specs ), lkp mayOne.live, ⟨lkp (mayOne.ospecs ), [], none, false, []⟩⟩
noncomputable def mayOne.go  (m : Nat) (x0 : (El TStatus)) : R := run (mayOne.cfg ) 81 mayOne.rs m [.code mayOne.body] (enter (ivA mayOne.ps (x0, ())))
theorem mayOne.start  (m : Nat) (x0 : (El TStatus)) : mayOne.go  (m + 1) x0 =
  test (may.pre (x0.1, Unit.unit)) (
   cond (Bool.not (mayB x0.1)) (
    some ((.c (.v (.bool false))), [])) (
    cond (decide (x0.2.1.2.2.1 < (0 : Int))) (
     some ((.c (.v (.bool false))), [])) (
     cond (decide (x0.2.1.2.2.1 > (2 : Int))) (
      some ((.c (.v (.bool false))), [])) (
      cond x0.2.2.2.2.2.1 (
       cond x0.2.2.2.2.1.1 (
        some ((.c (.v (.bool false))), [])) (
        cond (decide ((ite (x0.2.2.2.2.1.2.2.2 < (ite (x0.2.2.2.1.1 < (ite (x0.2.1.2.2.2 < (ite (x0.2.2.2.2.2.2.2.2 < (ite (x0.2.2.1 < x0.2.1.2.1) x0.2.2.1 x0.2.1.2.1)) x0.2.2.2.2.2.2.2.2 (ite (x0.2.2.1 < x0.2.1.2.1) x0.2.2.1 x0.2.1.2.1))) x0.2.1.2.2.2 (ite (x0.2.2.2.2.2.2.2.2 < (ite (x0.2.2.1 < x0.2.1.2.1) x0.2.2.1 x0.2.1.2.1)) x0.2.2.2.2.2.2.2.2 (ite (x0.2.2.1 < x0.2.1.2.1) x0.2.2.1 x0.2.1.2.1)))) x0.2.2.2.1.1 (ite (x0.2.1.2.2.2 < (ite (x0.2.2.2.2.2.2.2.2 < (ite (x0.2.2.1 < x0.2.1.2.1) x0.2.2.1 x0.2.1.2.1)) x0.2.2.2.2.2.2.2.2 (ite (x0.2.2.1 < x0.2.1.2.1) x0.2.2.1 x0.2.1.2.1))) x0.2.1.2.2.2 (ite (x0.2.2.2.2.2.2.2.2 < (ite (x0.2.2.1 < x0.2.1.2.1) x0.2.2.1 x0.2.1.2.1)) x0.2.2.2.2.2.2.2.2 (ite (x0.2.2.1 < x0.2.1.2.1) x0.2.2.1 x0.2.1.2.1))))) x0.2.2.2.2.1.2.2.2 (ite (x0.2.2.2.1.1 < (ite (x0.2.1.2.2.2 < (ite (x0.2.2.2.2.2.2.2.2 < (ite (x0.2.2.1 < x0.2.1.2.1) x0.2.2.1 x0.2.1.2.1)) x0.2.2.2.2.2.2.2.2 (ite (x0.2.2.1 < x0.2.1.2.1) x0.2.2.1 x0.2.1.2.1))) x0.2.1.2.2.2 (ite (x0.2.2.2.2.2.2.2.2 < (ite (x0.2.2.1 < x0.2.1.2.1) x0.2.2.1 x0.2.1.2.1)) x0.2.2.2.2.2.2.2.2 (ite (x0.2.2.1 < x0.2.1.2.1) x0.2.2.1 x0.2.1.2.1)))) x0.2.2.2.1.1 (ite (x0.2.1.2.2.2 < (ite (x0.2.2.2.2.2.2.2.2 < (ite (x0.2.2.1 < x0.2.1.2.1) x0.2.2.1 x0.2.1.2.1)) x0.2.2.2.2.2.2.2.2 (ite (x0.2.2.1 < x0.2.1.2.1) x0.2.2.1 x0.2.1.2.1))) x0.2.1.2.2.2 (ite (x0.2.2.2.2.2.2.2.2 < (ite (x0.2.2.1 < x0.2.1.2.1) x0.2.2.1 x0.2.1.2.1)) x0.2.2.2.2.2.2.2.2 (ite (x0.2.2.1 < x0.2.1.2.1) x0.2.2.1 x0.2.1.2.1))))) < (0 : Int))) (
         some ((.c (.v (.bool false))), [])) (
         cond (decide (x0.2.2.2.2.1.2.2.2 > (10 : Int))) (
          some ((.c (.v (.bool false))), [])) (
          cond (decide (x0.2.2.2.1.1 > x0.2.2.2.1.2)) (
           some ((.c (.v (.bool false))), [])) (
           cond (isTimeB x0.2.2.2.2.2.2.1) (
            cond (isTimeB x0.2.2.2.2.2.2.2.1) (
             cond (isTimeB x0.2.2.2.2.1.2.1) (
              some ((.c (.v (.bool (isTimeB x0.2.2.2.2.1.2.2.1)))), [])) (
              some ((.c (.v (.bool false))), []))) (
             some ((.c (.v (.bool false))), []))) (
            some ((.c (.v (.bool false))), []))))))) (
       cond (decide ((ite (x0.2.2.2.2.1.2.2.2 < (ite (x0.2.2.2.1.1 < (ite (x0.2.1.2.2.2 < (ite (x0.2.2.2.2.2.2.2.2 < (ite (x0.2.2.1 < x0.2.1.2.1) x0.2.2.1 x0.2.1.2.1)) x0.2.2.2.2.2.2.2.2 (ite (x0.2.2.1 < x0.2.1.2.1) x0.2.2.1 x0.2.1.2.1))) x0.2.1.2.2.2 (ite (x0.2.2.2.2.2.2.2.2 < (ite (x0.2.2.1 < x0.2.1.2.1) x0.2.2.1 x0.2.1.2.1)) x0.2.2.2.2.2.2.2.2 (ite (x0.2.2.1 < x0.2.1.2.1) x0.2.2.1 x0.2.1.2.1)))) x0.2.2.2.1.1 (ite (x0.2.1.2.2.2 < (ite (x0.2.2.2.2.2.2.2.2 < (ite (x0.2.2.1 < x0.2.1.2.1) x0.2.2.1 x0.2.1.2.1)) x0.2.2.2.2.2.2.2.2 (ite (x0.2.2.1 < x0.2.1.2.1) x0.2.2.1 x0.2.1.2.1))) x0.2.1.2.2.2 (ite (x0.2.2.2.2.2.2.2.2 < (ite (x0.2.2.1 < x0.2.1.2.1) x0.2.2.1 x0.2.1.2.1)) x0.2.2.2.2.2.2.2.2 (ite (x0.2.2.1 < x0.2.1.2.1) x0.2.2.1 x0.2.1.2.1))))) x0.2.2.2.2.1.2.2.2 (ite (x0.2.2.2.1.1 < (ite (x0.2.1.2.2.2 < (ite (x0.2.2.2.2.2.2.2.2 < (ite (x0.2.2.1 < x0.2.1.2.1) x0.2.2.1 x0.2.1.2.1)) x0.2.2.2.2.2.2.2.2 (ite (x0.2.2.1 < x0.2.1.2.1) x0.2.2.1 x0.2.1.2.1))) x0.2.1.2.2.2 (ite (x0.2.2.2.2.2.2.2.2 < (ite (x0.2.2.1 < x0.2.1.2.1) x0.2.2.1 x0.2.1.2.1)) x0.2.2.2.2.2.2.2.2 (ite (x0.2.2.1 < x0.2.1.2.1) x0.2.2.1 x0.2.1.2.1)))) x0.2.2.2.1.1 (ite (x0.2.1.2.2.2 < (ite (x0.2.2.2.2.2.2.2.2 < (ite (x0.2.2.1 < x0.2.1.2.1) x0.2.2.1 x0.2.1.2.1)) x0.2.2.2.2.2.2.2.2 (ite (x0.2.2.1 < x0.2.1.2.1) x0.2.2.1 x0.2.1.2.1))) x0.2.1.2.2.2 (ite (x0.2.2.2.2.2.2.2.2 < (ite (x0.2.2.1 < x0.2.1.2.1) x0.2.2.1 x0.2.1.2.1)) x0.2.2.2.2.2.2.2.2 (ite (x0.2.2.1 < x0.2.1.2.1) x0.2.2.1 x0.2.1.2.1))))) < (0 : Int))) (
        some ((.c (.v (.bool false))), [])) (
        cond (decide (x0.2.2.2.2.1.2.2.2 > (10 : Int))) (
         some ((.c (.v (.bool false))), [])) (
         cond (decide (x0.2.2.2.1.1 > x0.2.2.2.1.2)) (
          some ((.c (.v (.bool false))), [])) (
          cond (isTimeB x0.2.2.2.2.2.2.1) (
           cond (isTimeB x0.2.2.2.2.2.2.2.1) (
            cond (isTimeB x0.2.2.2.2.1.2.1) (
             some ((.c (.v (.bool (isTimeB x0.2.2.2.2.1.2.2.1)))), [])) (
             some ((.c (.v (.bool false))), []))) (
            some ((.c (.v (.bool false))), []))) (
           some ((.c (.v (.bool false))), [])))))))))) := by kernel_rfl
theorem mayOne.run_eq  (m : Nat) (x0 : (El TStatus)) : run (mayOne.cfg ) Try.f37.ntmps Try.f37.results.toList m [.code (bodyOf Try.f37)] (enter (ivA mayOne.ps (x0, ()))) = mayOne.go  m x0 := by kernel_rfl
theorem mayOne.ret  (hs : SpecsOK Try.prog (mayOne.specs ))  (x0 : (El TStatus)) {m : Nat} {r : IV} (h : mayOne.go  m x0 = some (r, [])) : VE.Returns Try.prog 37 (ivA mayOne.ps (x0, ())) r :=
  returns_of_run (cfg := mayOne.cfg ) (cfgOK_of mixed tab_ok hs .nil) rfl Try.func37 (body_some (by kernel_rfl)) (Nat.le_of_ble_eq_true (by kernel_rfl)) ((mayOne.run_eq  m x0).trans h)
abbrev mayOne.Law : Prop := ∀ (x0 : (El TStatus)), mayOne.pre (x0, ()) = true → VE.Returns Try.prog 37 (ivA mayOne.ps (x0, ())) (mayOne.res (x0, ()))
theorem mayOne.mkR (H : ∀ (x0 : (El TStatus)), mayOne.pre (x0, ()) = true → VE.Returns Try.prog 37 (ivA mayOne.ps (x0, ())) (mayOne.res (x0, ()))) : SpecOK Try.prog 37 mayOne.sp :=
  specOf_ret Try.func37 (by kernel_rfl) (by kernel_rfl) fun (x : (El TStatus) × Unit) hx => H (x.1) hx
theorem mayOne.mk  (hs : SpecsOK Try.prog (mayOne.specs ))  (H : ∀ (x0 : (El TStatus)), mayOne.pre (x0, ()) = true → ∃ m, mayOne.go  m x0 = some (mayOne.res (x0, ()), [])) : SpecOK Try.prog 37 mayOne.sp :=
  mayOne.mkR fun x0 hx => (H x0 hx).elim fun _ hm => mayOne.ret  hs  x0 hm

/-! ### triage/state.May -/
abbrev mayS.ps : List AK := [.d false (.sl TStatus)]
def mayS.pre : ElA mayS.ps → Bool := fun (x : (List (El TStatus)) × Unit) => fits (.sl TStatus) (x.1) && (true)
def mayS.res : ElA mayS.ps → IV := fun (x : (List (El TStatus)) × Unit) => (fun l => vb (maySB l)) x.1
def mayS.sp : ISpec := spOf mayS.ps mayS.pre mayS.res
abbrev mayS.OK : Prop := SpecOK Try.prog 16 mayS.sp
noncomputable def mayS.body : Code := bodyOf Try.f16
noncomputable def mayS.rs : List ResultVar := Try.f16.results.toList
def mayS.live : List (Nat × Live) := [(2, ⟨[(0, .sl TStatus), (5, .sl TStatus), (6, .plain), (7, .plain)], []⟩)]
noncomputable def mayS.specs  : List (Nat × (List Bool × ISpec)) := [(37, ([], mayOne.sp))]
noncomputable def mayS.ospecs  : List (Nat × OS) := []
noncomputable def mayS.cfg  : Cfg := ⟨lkp tab, lkp (mayS.specs ), lkp mayS.live, ⟨lkp (mayS.ospecs ), [], none, false, []⟩⟩
noncomputable def mayS.l1  (m : Nat) (x0 : List (El TStatus)) (x1 : List (El TStatus)) (x2 : Int) (x3 : Int) : R := run (mayS.cfg ) 36 mayS.rs m ((todoR 2 mayS.body []).getD []) ⟨ofList (.c .junk) [(0, (.c (.sl TStatus x0))), (5, (.c (.sl TStatus x1))), (6, (.c (.v (.int .i64 x2)))), (7, (.c (.v (.int .i64 x3))))], ofList none [], ofList false []⟩
noncomputable def mayS.go  (m : Nat) (x0 : (List (El TStatus))) : R := run (mayS.cfg ) 36 mayS.rs m [.code mayS.body] (enter (ivA mayS.ps (x0, ())))
theorem mayS.start  (m : Nat) (x0 : (List (El TStatus))) : mayS.go  (m + 1) x0 =
  mayS.l1  m x0 x0 ((List.length x0) : Int) (0 : Int) := by kernel_rfl
theorem mayS.s1  (m : Nat) (x0 : List (El TStatus)) (x1 : List (El TStatus)) (x2 : Int) (x3 : Int) : mayS.l1  (m + 1) x0 x1 x2 x3 =
  cond (decide (x3 < x2)) (
   test (decide ((0 : Int) ≤ x3)) (
    test (decide (x3 < ((List.length x1) : Int))) (
     test (mayOne.pre (((rdEl TStatus x1 (Int.toNat x3))), Unit.unit)) (
      cond (Bool.not (mayOneB ((rdEl TStatus x1 (Int.toNat x3))))) (
       some ((.c (.v (.bool false))), [])) (
       cond (decide (x3 > (0 : Int))) (
        test (decide ((0 : Int) ≤ (IntKind.i64.wrap (x3 - (1 : Int))))) (
         test (decide ((IntKind.i64.wrap (x3 - (1 : Int))) < ((List.length x0) : Int))) (
          cond (decide ((((rdEl TStatus x0 (Int.toNat (IntKind.i64.wrap (x3 - (1 : Int)))))).1).1 ≥ (((rdEl TStatus x1 (Int.toNat x3))).1).1)) (
           some ((.c (.v (.bool false))), [])) (
           mayS.l1  m x0 x1 x2 (IntKind.i64.wrap (x3 + (1 : Int))))))) (
        mayS.l1  m x0 x1 x2 (IntKind.i64.wrap (x3 + (1 : Int))))))))) (
   some ((.c (.v (.bool (decide (((List.length x0) : Int) ≤ (64 : Int)))))), [])) := by kernel_rfl
theorem mayS.run_eq  (m : Nat) (x0 : (List (El TStatus))) : run (mayS.cfg ) Try.f16.ntmps Try.f16.results.toList m [.code (bodyOf Try.f16)] (enter (ivA mayS.ps (x0, ()))) = mayS.go  m x0 := by kernel_rfl
theorem mayS.ret  (hs : SpecsOK Try.prog (mayS.specs ))  (x0 : (List (El TStatus))) {m : Nat} {r : IV} (h : mayS.go  m x0 = some (r, [])) : VE.Returns Try.prog 16 (ivA mayS.ps (x0, ())) r :=
  returns_of_run (cfg := mayS.cfg ) (cfgOK_of mixed tab_ok hs .nil) rfl Try.func16 (body_some (by kernel_rfl)) (Nat.le_of_ble_eq_true (by kernel_rfl)) ((mayS.run_eq  m x0).trans h)
abbrev mayS.Law : Prop := ∀ (x0 : (List (El TStatus))), mayS.pre (x0, ()) = true → VE.Returns Try.prog 16 (ivA mayS.ps (x0, ())) (mayS.res (x0, ()))
theorem mayS.mkR (H : ∀ (x0 : (List (El TStatus))), mayS.pre (x0, ()) = true → VE.Returns Try.prog 16 (ivA mayS.ps (x0, ())) (mayS.res (x0, ()))) : SpecOK Try.prog 16 mayS.sp :=
  specOf_ret Try.func16 (by kernel_rfl) (by kernel_rfl) fun (x : (List (El TStatus)) × Unit) hx => H (x.1) hx
theorem mayS.mk  (hs : SpecsOK Try.prog (mayS.specs ))  (H : ∀ (x0 : (List (El TStatus))), mayS.pre (x0, ()) = true → ∃ m, mayS.go  m x0 = some (mayS.res (x0, ()), [])) : SpecOK Try.prog 16 mayS.sp :=
  mayS.mkR fun x0 hx => (H x0 hx).elim fun _ hm => mayS.ret  hs  x0 hm

/-! ### triage/state.Find$1 -/
abbrev findF.ps : List AK := [.d true TStatus, .p (.int .i64)]
def findF.pre : ElA findF.ps → Bool := fun (x : (El TStatus) × Int × Unit) => fits TStatus (x.1) && (fits (.int .i64) (x.2.1) && (true))
def findF.res : ElA findF.ps → IV := fun (x : (El TStatus) × Int × Unit) => (fun s id => vb (idIs id s)) x.1 x.2.1
def findF.sp : ISpec := spOf findF.ps findF.pre findF.res
abbrev findF.OK : Prop := SpecOK Try.prog 42 findF.sp
noncomputable def findF.body : Code := bodyOf Try.f42
noncomputable def findF.rs : List ResultVar := Try.f42.results.toList
def findF.live : List (Nat × Live) := []
noncomputable def findF.specs  : List (Nat × (List Bool × ISpec)) := []
noncomputable def findF.ospecs  : List (Nat × OS) := []
noncomputable def findF.cfg  : Cfg := ⟨lkp tab, lkp (findF.specs ), lkp findF.live, ⟨lkp (findF.ospecs ), [], none, false, []⟩⟩
noncomputable def findF.go  (m : Nat) (x0 : (El TStatus)) (x1 : Int) : R := run (findF.cfg ) 9 findF.rs m [.code findF.body] (enter (ivA findF.ps (x0, x1, ())))
theorem findF.start  (m : Nat) (x0 : (El TStatus)) (x1 : Int) : findF.go  (m + 1) x0 x1 =
  some ((.c (.v (.bool (x0.1.1 == x1)))), []) := by kernel_rfl
theorem findF.run_eq  (m : Nat) (x0 : (El TStatus)) (x1 : Int) : run (findF.cfg ) Try.f42.ntmps Try.f42.results.toList m [.code (bodyOf Try.f42)] (enter (ivA findF.ps (x0, x1, ()))) = findF.go  m x0 x1 := by kernel_rfl
theorem findF.ret  (hs : SpecsOK Try.prog (findF.specs ))  (x0 : (El TStatus)) (x1 : Int) {m : Nat} {r : IV} (h : findF.go  m x0 x1 = some (r, [])) : VE.Returns Try.prog 42 (ivA findF.ps (x0, x1, ())) r :=
  returns_of_run (cfg := findF.cfg ) (cfgOK_of mixed tab_ok hs .nil) rfl Try.func42 (body_some (by kernel_rfl)) (Nat.le_of_ble_eq_true (by kernel_rfl)) ((findF.run_eq  m x0 x1).trans h)
abbrev findF.Law : Prop := ∀ (x0 : (El TStatus)) (x1 : Int), findF.pre (x0, x1, ()) = true → VE.Returns Try.prog 42 (ivA findF.ps (x0, x1, ())) (findF.res (x0, x1, ()))
theorem findF.mkR (H : ∀ (x0 : (El TStatus)) (x1 : Int), findF.pre (x0, x1, ()) = true → VE.Returns Try.prog 42 (ivA findF.ps (x0, x1, ())) (findF.res (x0, x1, ()))) : SpecOK Try.prog 42 findF.sp :=
  specOf_ret Try.func42 (by kernel_rfl) (by kernel_rfl) fun (x : (El TStatus) × Int × Unit) hx => H (x.1) (x.2.1) hx
theorem findF.mk  (hs : SpecsOK Try.prog (findF.specs ))  (H : ∀ (x0 : (El TStatus)) (x1 : Int), findF.pre (x0, x1, ()) = true → ∃ m, findF.go  m x0 x1 = some (findF.res (x0, x1, ()), [])) : SpecOK Try.prog 42 findF.sp :=
  findF.mkR fun x0 x1 hx => (H x0 x1 hx).elim fun _ hm => findF.ret  hs  x0 x1 hm

/-! ### slices.IndexFunc(()triage/api.Status,triage/api.Status) -/
abbrev ixFind.ps : List AK := [.d false (.sl TStatus), .f 42 [(true, (.int .i64))]]
def ixFind.pre : ElA ixFind.ps → Bool := fun (x : (List (El TStatus)) × (Int × Unit) × Unit) => fits (.sl TStatus) (x.1) && (fits (.int .i64) (x.2.1.1) && (true))
def ixFind.res : ElA ixFind.ps → IV := fun (x : (List (El TStatus)) × (Int × Unit) × Unit) => (fun l c => vi .i64 (ixOf (idIs c.1) l)) x.1 x.2.1
def ixFind.sp : ISpec := spOf ixFind.ps ixFind.pre ixFind.res
abbrev ixFind.OK : Prop := SpecOK Try.prog 41 ixFind.sp
noncomputable def ixFind.body : Code := bodyOf Try.f41
noncomputable def ixFind.rs : List ResultVar := Try.f41.results.toList
def ixFind.live : List (Nat × Live) := [(2, ⟨[(0, .sl TStatus), (1, .plain), (7, .plain), (8, .plain)], []⟩)]
noncomputable def ixFind.specs  : List (Nat × (List Bool × ISpec)) := [(42, ([], findF.sp))]
noncomputable def ixFind.ospecs  : List (Nat × OS) := []
noncomputable def ixFind.cfg  : Cfg := ⟨lkp tab, lkp (ixFind.specs ), lkp ixFind.live, ⟨lkp (ixFind.ospecs ), [], none, false, []⟩⟩
noncomputable def ixFind.l1  (m : Nat) (x0 : List (El TStatus)) (x1 : Int) (x2 : Int) (x3 : Int) : R := run (ixFind.cfg ) 19 ixFind.rs m ((todoR 2 ixFind.body []).getD []) ⟨ofList (.c .junk) [(0, (.c (.sl TStatus x0))), (1, (.c (.fn 42 [(.snap [(.v (.int .i64 x1))] 0)]))), (7, (.c (.v (.int .i64 x2)))), (8, (.c (.v (.int .i64 x3))))], ofList none [], ofList false []⟩
noncomputable def ixFind.go  (m : Nat) (x0 : (List (El TStatus))) (x1 : (Int × Unit)) : R := run (ixFind.cfg ) 19 ixFind.rs m [.code ixFind.body] (enter (ivA ixFind.ps (x0, x1, ())))
theorem ixFind.start  (m : Nat) (x0 : (List (El TStatus))) (x1 : (Int × Unit)) : ixFind.go  (m + 1) x0 x1 =
  ixFind.l1  m x0 x1.1 ((List.length x0) : Int) (0 : Int) := by kernel_rfl
theorem ixFind.s1  (m : Nat) (x0 : List (El TStatus)) (x1 : Int) (x2 : Int) (x3 : Int) : ixFind.l1  (m + 1) x0 x1 x2 x3 =
  cond (decide (x3 < x2)) (
   test (decide ((0 : Int) ≤ x3)) (
    test (decide (x3 < ((List.length x0) : Int))) (
     test (findF.pre (((rdEl TStatus x0 (Int.toNat x3))), (x1, Unit.unit))) (
      cond (idIs x1 ((rdEl TStatus x0 (Int.toNat x3)))) (
       some ((.c (.v (.int .i64 x3))), [])) (
       ixFind.l1  m x0 x1 x2 (IntKind.i64.wrap (x3 + (1 : Int)))))))) (
   some ((.c (.v (.int .i64 (-(1 : Int))))), [])) := by kernel_rfl
theorem ixFind.run_eq  (m : Nat) (x0 : (List (El TStatus))) (x1 : (Int × Unit)) : run (ixFind.cfg ) Try.f41.ntmps Try.f41.results.toList m [.code (bodyOf Try.f41)] (enter (ivA ixFind.ps (x0, x1, ()))) = ixFind.go  m x0 x1 := by kernel_rfl
theorem ixFind.ret  (hs : SpecsOK Try.prog (ixFind.specs ))  (x0 : (List (El TStatus))) (x1 : (Int × Unit)) {m : Nat} {r : IV} (h : ixFind.go  m x0 x1 = some (r, [])) : VE.Returns Try.prog 41 (ivA ixFind.ps (x0, x1, ())) r :=
  returns_of_run (cfg := ixFind.cfg ) (cfgOK_of mixed tab_ok hs .nil) rfl Try.func41 (body_some (by kernel_rfl)) (Nat.le_of_ble_eq_true (by kernel_rfl)) ((ixFind.run_eq  m x0 x1).trans h)
abbrev ixFind.Law : Prop := ∀ (x0 : (List (El TStatus))) (x1 : (Int × Unit)), ixFind.pre (x0, x1, ()) = true → VE.Returns Try.prog 41 (ivA ixFind.ps (x0, x1, ())) (ixFind.res (x0, x1, ()))
theorem ixFind.mkR (H : ∀ (x0 : (List (El TStatus))) (x1 : (Int × Unit)), ixFind.pre (x0, x1, ()) = true → VE.Returns Try.prog 41 (ivA ixFind.ps (x0, x1, ())) (ixFind.res (x0, x1, ()))) : SpecOK Try.prog 41 ixFind.sp :=
  specOf_ret Try.func41 (by kernel_rfl) (by kernel_rfl) fun (x : (List (El TStatus)) × (Int × Unit) × Unit) hx => H (x.1) (x.2.1) hx
theorem ixFind.mk  (hs : SpecsOK Try.prog (ixFind.specs ))  (H : ∀ (x0 : (List (El TStatus))) (x1 : (Int × Unit)), ixFind.pre (x0, x1, ()) = true → ∃ m, ixFind.go  m x0 x1 = some (ixFind.res (x0, x1, ()), [])) : SpecOK Try.prog 41 ixFind.sp :=
  ixFind.mkR fun x0 x1 hx => (H x0 x1 hx).elim fun _ hm => ixFind.ret  hs  x0 x1 hm

/-! ### triage/state.Find -/
abbrev find.ps : List AK := [.d false (.sl TStatus), .d false (.int .i64)]
def find.pre : ElA find.ps → Bool := fun (x : (List (El TStatus)) × Int × Unit) => fits (.sl TStatus) (x.1) && (fits (.int .i64) (x.2.1) && (true))
def find.res : ElA find.ps → IV := fun (x : (List (El TStatus)) × Int × Unit) => (fun l id => vi .i64 (ixOf (idIs id) l)) x.1 x.2.1
def find.sp : ISpec := spOf find.ps find.pre find.res
abbrev find.OK : Prop := SpecOK Try.prog 19 find.sp
noncomputable def find.body : Code := bodyOf Try.f19
noncomputable def find.rs : List ResultVar := Try.f19.results.toList
def find.live : List (Nat × Live) := []
noncomputable def find.specs  : List (Nat × (List Bool × ISpec)) := [(41, ([], ixFind.sp))]
noncomputable def find.ospecs  : List (Nat × OS) := []
noncomputable def find.cfg  : Cfg := ⟨lkp tab, lkp (find.specs ), lkp find.live, ⟨lkp (find.ospecs ), [], none, false, []⟩⟩
noncomputable def find.go  (m : Nat) (x0 : (List (El TStatus))) (x1 : Int) : R := run (find.cfg ) 8 find.rs m [.code find.body] (enter (ivA find.ps (x0, x1, ())))
theorem find.start  (m : Nat) (x0 : (List (El TStatus))) (x1 : Int) : find.go  (m + 1) x0 x1 =
  test (ixFind.pre (x0, ((x1, Unit.unit), Unit.unit))) (
   some ((.c (.v (.int .i64 (ixOf (idIs x1) x0)))), [])) := by kernel_rfl
theorem find.run_eq  (m : Nat) (x0 : (List (El TStatus))) (x1 : Int) : run (find.cfg ) Try.f19.ntmps Try.f19.results.toList m [.code (bodyOf Try.f19)] (enter (ivA find.ps (x0, x1, ()))) = find.go  m x0 x1 := by kernel_rfl
theorem find.ret  (hs : SpecsOK Try.prog (find.specs ))  (x0 : (List (El TStatus))) (x1 : Int) {m : Nat} {r : IV} (h : find.go  m x0 x1 = some (r, [])) : VE.Returns Try.prog 19 (ivA find.ps (x0, x1, ())) r :=
  returns_of_run (cfg := find.cfg ) (cfgOK_of mixed tab_ok hs .nil) rfl Try.func19 (body_some (by kernel_rfl)) (Nat.le_of_ble_eq_true (by kernel_rfl)) ((find.run_eq  m x0 x1).trans h)
abbrev find.Law : Prop := ∀ (x0 : (List (El TStatus))) (x1 : Int), find.pre (x0, x1, ()) = true → VE.Returns Try.prog 19 (ivA find.ps (x0, x1, ())) (find.res (x0, x1, ()))
theorem find.mkR (H : ∀ (x0 : (List (El TStatus))) (x1 : Int), find.pre (x0, x1, ()) = true → VE.Returns Try.prog 19 (ivA find.ps (x0, x1, ())) (find.res (x0, x1, ()))) : SpecOK Try.prog 19 find.sp :=
  specOf_ret Try.func19 (by kernel_rfl) (by kernel_rfl) fun (x : (List (El TStatus)) × Int × Unit) hx => H (x.1) (x.2.1) hx
theorem find.mk  (hs : SpecsOK Try.prog (find.specs ))  (H : ∀ (x0 : (List (El TStatus))) (x1 : Int), find.pre (x0, x1, ()) = true → ∃ m, find.go  m x0 x1 = some (find.res (x0, x1, ()), [])) : SpecOK Try.prog 19 find.sp :=
  find.mkR fun x0 x1 hx => (H x0 x1 hx).elim fun _ hm => find.ret  hs  x0 x1 hm

/-! ### triage/triageref10.Find -/
abbrev findR.ps : List AK := [.d false (.sl TStatus), .d false (.int .i64)]
def findR.pre : ElA findR.ps → Bool := fun (x : (List (El TStatus)) × Int × Unit) => fits (.sl TStatus) (x.1) && (fits (.int .i64) (x.2.1) && (true))
def findR.res : ElA findR.ps → IV := fun (x : (List (El TStatus)) × Int × Unit) => (fun l id => vi .i64 (ixOf (idIs id) l)) x.1 x.2.1
def findR.sp : ISpec := spOf findR.ps findR.pre findR.res
abbrev findR.OK : Prop := SpecOK Try.prog 25 findR.sp
noncomputable def findR.body : Code := bodyOf Try.f25
noncomputable def findR.rs : List ResultVar := Try.f25.results.toList
def findR.live : List (Nat × Live) := [(2, ⟨[(1, .plain), (7, .sl TStatus), (8, .plain), (9, .plain)], []⟩)]
noncomputable def findR.specs  : List (Nat × (List Bool × ISpec)) := []
noncomputable def findR.ospecs  : List (Nat × OS) := []
noncomputable def findR.cfg  : Cfg := ⟨lkp tab, lkp (findR.specs ), lkp findR.live, ⟨lkp (findR.ospecs ), [], none, false, []⟩⟩
noncomputable def findR.l1  (m : Nat) (x0 : Int) (x1 : List (El TStatus)) (x2 : Int) (x3 : Int) : R := run (findR.cfg ) 21 findR.rs m ((todoR 2 findR.body []).getD []) ⟨ofList (.c .junk) [(1, (.c (.v (.int .i64 x0)))), (7, (.c (.sl TStatus x1))), (8, (.c (.v (.int .i64 x2)))), (9, (.c (.v (.int .i64 x3))))], ofList none [], ofList false []⟩
noncomputable def findR.go  (m : Nat) (x0 : (List (El TStatus))) (x1 : Int) : R := run (findR.cfg ) 21 findR.rs m [.code findR.body] (enter (ivA findR.ps (x0, x1, ())))
theorem findR.start  (m : Nat) (x0 : (List (El TStatus))) (x1 : Int) : findR.go  (m + 1) x0 x1 =
  findR.l1  m x1 x0 ((List.length x0) : Int) (0 : Int) := by kernel_rfl
theorem findR.s1  (m : Nat) (x0 : Int) (x1 : List (El TStatus)) (x2 : Int) (x3 : Int) : findR.l1  (m + 1) x0 x1 x2 x3 =
  cond (decide (x3 < x2)) (
   test (decide ((0 : Int) ≤ x3)) (
    test (decide (x3 < ((List.length x1) : Int))) (
     cond ((((rdEl TStatus x1 (Int.toNat x3))).1).1 == x0) (
      some ((.c (.v (.int .i64 x3))), [])) (
      findR.l1  m x0 x1 x2 (IntKind.i64.wrap (x3 + (1 : Int))))))) (
   some ((.c (.v (.int .i64 (-(1 : Int))))), [])) := by kernel_rfl
theorem findR.run_eq  (m : Nat) (x0 : (List (El TStatus))) (x1 : Int) : run (findR.cfg ) Try.f25.ntmps Try.f25.results.toList m [.code (bodyOf Try.f25)] (enter (ivA findR.ps (x0, x1, ()))) = findR.go  m x0 x1 := by kernel_rfl
theorem findR.ret  (hs : SpecsOK Try.prog (findR.specs ))  (x0 : (List (El TStatus))) (x1 : Int) {m : Nat} {r : IV} (h : findR.go  m x0 x1 = some (r, [])) : VE.Returns Try.prog 25 (ivA findR.ps (x0, x1, ())) r :=
  returns_of_run (cfg := findR.cfg ) (cfgOK_of mixed tab_ok hs .nil) rfl Try.func25 (body_some (by kernel_rfl)) (Nat.le_of_ble_eq_true (by kernel_rfl)) ((findR.run_eq  m x0 x1).trans h)
abbrev findR.Law : Prop := ∀ (x0 : (List (El TStatus))) (x1 : Int), findR.pre (x0, x1, ()) = true → VE.Returns Try.prog 25 (ivA findR.ps (x0, x1, ())) (findR.res (x0, x1, ()))
theorem findR.mkR (H : ∀ (x0 : (List (El TStatus))) (x1 : Int), findR.pre (x0, x1, ()) = true → VE.Returns Try.prog 25 (ivA findR.ps (x0, x1, ())) (findR.res (x0, x1, ()))) : SpecOK Try.prog 25 findR.sp :=
  specOf_ret Try.func25 (by kernel_rfl) (by kernel_rfl) fun (x : (List (El TStatus)) × Int × Unit) hx => H (x.1) (x.2.1) hx
theorem findR.mk  (hs : SpecsOK Try.prog (findR.specs ))  (H : ∀ (x0 : (List (El TStatus))) (x1 : Int), findR.pre (x0, x1, ()) = true → ∃ m, findR.go  m x0 x1 = some (findR.res (x0, x1, ()), [])) : SpecOK Try.prog 25 findR.sp :=
  findR.mkR fun x0 x1 hx => (H x0 x1 hx).elim fun _ hm => findR.ret  hs  x0 x1 hm

/-! ### triage/state.Free -/
abbrev free.ps : List AK := [.d true TStatus]
def free.pre : ElA free.ps → Bool := fun (x : (El TStatus) × Unit) => fits TStatus (x.1) && (true)
def free.res : ElA free.ps → IV := fun (x : (El TStatus) × Unit) => (fun s => vb (freeB s)) x.1
def free.sp : ISpec := spOf free.ps free.pre free.res
abbrev free.OK : Prop := SpecOK Try.prog 11 free.sp
noncomputable def free.body : Code := bodyOf Try.f11
noncomputable def free.rs : List ResultVar := Try.f11.results.toList
def free.live : List (Nat × Live) := []
noncomputable def free.specs  : List (Nat × (List Bool × ISpec)) := [(33, ([], well.sp))]
noncomputable def free.ospecs  : List (Nat × OS) := []
noncomputable def free.cfg  : Cfg := ⟨lkp tab, lkp (free.specs ), lkp free.live, ⟨lkp (free.ospecs ), [], none, false, []⟩⟩
noncomputable def free.go  (m : Nat) (x0 : (El TStatus)) : R := run (free.cfg ) 17 free.rs m [.code free.body] (enter (ivA free.ps (x0, ())))
theorem free.start  (m : Nat) (x0 : (El TStatus)) : free.go  (m + 1) x0 =
  cond (Bool.not x0.2.2.2.2.2.1) (
   cond (wellB x0.2.1) (
    some ((.c (.v (.bool (Bool.not x0.2.2.2.2.1.1)))), [])) (
    some ((.c (.v (.bool false))), []))) (
   some ((.c (.v (.bool false))), [])) := by kernel_rfl
theorem free.run_eq  (m : Nat) (x0 : (El TStatus)) : run (free.cfg ) Try.f11.ntmps Try.f11.results.toList m [.code (bodyOf Try.f11)] (enter (ivA free.ps (x0, ()))) = free.go  m x0 := by kernel_rfl
theorem free.ret  (hs : SpecsOK Try.prog (free.specs ))  (x0 : (El TStatus)) {m : Nat} {r : IV} (h : free.go  m x0 = some (r, [])) : VE.Returns Try.prog 11 (ivA free.ps (x0, ())) r :=
  returns_of_run (cfg := free.cfg ) (cfgOK_of mixed tab_ok hs .nil) rfl Try.func11 (body_some (by kernel_rfl)) (Nat.le_of_ble_eq_true (by kernel_rfl)) ((free.run_eq  m x0).trans h)
abbrev free.Law : Prop := ∀ (x0 : (El TStatus)), free.pre (x0, ()) = true → VE.Returns Try.prog 11 (ivA free.ps (x0, ())) (free.res (x0, ()))
theorem free.mkR (H : ∀ (x0 : (El TStatus)), free.pre (x0, ()) = true → VE.Returns Try.prog 11 (ivA free.ps (x0, ())) (free.res (x0, ()))) : SpecOK Try.prog 11 free.sp :=
  specOf_ret Try.func11 (by kernel_rfl) (by kernel_rfl) fun (x : (El TStatus) × Unit) hx => H (x.1) hx
theorem free.mk  (hs : SpecsOK Try.prog (free.specs ))  (H : ∀ (x0 : (El TStatus)), free.pre (x0, ()) = true → ∃ m, free.go  m x0 = some (free.res (x0, ()), [])) : SpecOK Try.prog 11 free.sp :=
  free.mkR fun x0 hx => (H x0 hx).elim fun _ hm => free.ret  hs  x0 hm

/-! ### triage/triageref10.Free -/
abbrev freeR.ps : List AK := [.d true TStatus]
def freeR.pre : ElA freeR.ps → Bool := fun (x : (El TStatus) × Unit) => fits TStatus (x.1) && (true)
def freeR.res : ElA freeR.ps → IV := fun (x : (El TStatus) × Unit) => (fun s => vb (freeB s)) x.1
def freeR.sp : ISpec := spOf freeR.ps freeR.pre freeR.res
abbrev freeR.OK : Prop := SpecOK Try.prog 26 freeR.sp
noncomputable def freeR.body : Code := bodyOf Try.f26
noncomputable def freeR.rs : List ResultVar := Try.f26.results.toList
def freeR.live : List (Nat × Live) := []
noncomputable def freeR.specs  : List (Nat × (List Bool × ISpec)) := [(47, ([], wellR.sp))]
noncomputable def freeR.ospecs  : List (Nat × OS) := []
noncomputable def freeR.cfg  : Cfg := ⟨lkp tab, lkp (freeR.specs ), lkp freeR.live, ⟨lkp (freeR.ospecs ), [], none, false, []⟩⟩
noncomputable def freeR.go  (m : Nat) (x0 : (El TStatus)) : R := run (freeR.cfg ) 17 freeR.rs m [.code freeR.body] (enter (ivA freeR.ps (x0, ())))
theorem freeR.start  (m : Nat) (x0 : (El TStatus)) : freeR.go  (m + 1) x0 =
  cond (Bool.not x0.2.2.2.2.2.1) (
   cond (wellB x0.2.1) (
    some ((.c (.v (.bool (Bool.not x0.2.2.2.2.1.1)))), [])) (
    some ((.c (.v (.bool false))), []))) (
   some ((.c (.v (.bool false))), [])) := by kernel_rfl
theorem freeR.run_eq  (m : Nat) (x0 : (El TStatus)) : run (freeR.cfg ) Try.f26.ntmps Try.f26.results.toList m [.code (bodyOf Try.f26)] (enter (ivA freeR.ps (x0, ()))) = freeR.go  m x0 := by kernel_rfl
theorem freeR.ret  (hs : SpecsOK Try.prog (freeR.specs ))  (x0 : (El TStatus)) {m : Nat} {r : IV} (h : freeR.go  m x0 = some (r, [])) : VE.Returns Try.prog 26 (ivA freeR.ps (x0, ())) r :=
  returns_of_run (cfg := freeR.cfg ) (cfgOK_of mixed tab_ok hs .nil) rfl Try.func26 (body_some (by kernel_rfl)) (Nat.le_of_ble_eq_true (by kernel_rfl)) ((freeR.run_eq  m x0).trans h)
abbrev freeR.Law : Prop := ∀ (x0 : (El TStatus)), freeR.pre (x0, ()) = true → VE.Returns Try.prog 26 (ivA freeR.ps (x0, ())) (freeR.res (x0, ()))
theorem freeR.mkR (H : ∀ (x0 : (El TStatus)), freeR.pre (x0, ()) = true → VE.Returns Try.prog 26 (ivA freeR.ps (x0, ())) (freeR.res (x0, ()))) : SpecOK Try.prog 26 freeR.sp :=
  specOf_ret Try.func26 (by kernel_rfl) (by kernel_rfl) fun (x : (El TStatus) × Unit) hx => H (x.1) hx
theorem freeR.mk  (hs : SpecsOK Try.prog (freeR.specs ))  (H : ∀ (x0 : (El TStatus)), freeR.pre (x0, ()) = true → ∃ m, freeR.go  m x0 = some (freeR.res (x0, ()), [])) : SpecOK Try.prog 26 freeR.sp :=
  freeR.mkR fun x0 hx => (H x0 hx).elim fun _ hm => freeR.ret  hs  x0 hm

/-! ### triage/state.New -/
abbrev newS.ps : List AK := [.d true THost, .d false (.int .i64)]
def newS.pre : ElA newS.ps → Bool := fun (x : (El THost) × Int × Unit) => fits THost (x.1) && (fits (.int .i64) (x.2.1) && (true))
def newS.res : ElA newS.ps → IV := fun (x : (El THost) × Int × Unit) => (fun h n => mkIV true (enc TStatus (newB h n))) x.1 x.2.1
def newS.sp : ISpec := spOf newS.ps newS.pre newS.res
abbrev newS.OK : Prop := SpecOK Try.prog 15 newS.sp
noncomputable def newS.body : Code := bodyOf Try.f15
noncomputable def newS.rs : List ResultVar := Try.f15.results.toList
def newS.live : List (Nat × Live) := []
noncomputable def newS.specs  : List (Nat × (List Bool × ISpec)) := [(35, ([], copy.sp)), (36, ([], probeNew.sp))]
noncomputable def newS.ospecs  : List (Nat × OS) := []
noncomputable def newS.cfg  : Cfg := ⟨lkp tab, lkp (newS.specs ), lkp newS.live, ⟨lkp (newS.ospecs ), [], none, false, []⟩⟩
noncomputable def newS.go  (m : Nat) (x0 : (El THost)) (x1 : Int) : R := run (newS.cfg ) 12 newS.rs m [.code newS.body] (enter (ivA newS.ps (x0, x1, ())))
theorem newS.start  (m : Nat) (x0 : (El THost)) (x1 : Int) : newS.go  (m + 1) x0 x1 =
  test (copy.pre (x0, Unit.unit)) (
   some ((.agg [(.v (.int .i64 x0.1)), (.v (.string x0.2.1)), (.v (.int .i64 x0.2.2.1)), (.v (.string x0.2.2.2.1)), (.v (.int .i64 x0.2.2.2.2.1)), (.sl TPair x0.2.2.2.2.2), (.v (.bool true)), (.v (.int .i64 (0 : El (Ty.int IntKind.i64)))), (.v (.int .i64 (0 : El (Ty.int IntKind.i64)))), (.v (.int .i64 (0 : El (Ty.int IntKind.i64)))), (.v (.int .i64 (0 : Int))), (.v (.int .i64 (0 : Int))), (.v (.int .i64 (0 : Int))), (.v (.bool false)), (.v (.int .i64 (0 : Int))), (.v (.int .i64 (0 : Int))), (.v (.int .i64 (0 : Int))), (.v (.bool false)), (.v (.int .i64 (0 : Int))), (.v (.int .i64 (ite ((4611686018427387904 : Int) < (ite ((0 : Int) > x1) (0 : Int) x1)) (4611686018427387904 : Int) (ite ((0 : Int) > x1) (0 : Int) x1)))), (.v (.int .i64 (0 : Int)))]), [])) := by kernel_rfl
theorem newS.run_eq  (m : Nat) (x0 : (El THost)) (x1 : Int) : run (newS.cfg ) Try.f15.ntmps Try.f15.results.toList m [.code (bodyOf Try.f15)] (enter (ivA newS.ps (x0, x1, ()))) = newS.go  m x0 x1 := by kernel_rfl
theorem newS.ret  (hs : SpecsOK Try.prog (newS.specs ))  (x0 : (El THost)) (x1 : Int) {m : Nat} {r : IV} (h : newS.go  m x0 x1 = some (r, [])) : VE.Returns Try.prog 15 (ivA newS.ps (x0, x1, ())) r :=
  returns_of_run (cfg := newS.cfg ) (cfgOK_of mixed tab_ok hs .nil) rfl Try.func15 (body_some (by kernel_rfl)) (Nat.le_of_ble_eq_true (by kernel_rfl)) ((newS.run_eq  m x0 x1).trans h)
abbrev newS.Law : Prop := ∀ (x0 : (El THost)) (x1 : Int), newS.pre (x0, x1, ()) = true → VE.Returns Try.prog 15 (ivA newS.ps (x0, x1, ())) (newS.res (x0, x1, ()))
theorem newS.mkR (H : ∀ (x0 : (El THost)) (x1 : Int), newS.pre (x0, x1, ()) = true → VE.Returns Try.prog 15 (ivA newS.ps (x0, x1, ())) (newS.res (x0, x1, ()))) : SpecOK Try.prog 15 newS.sp :=
  specOf_ret Try.func15 (by kernel_rfl) (by kernel_rfl) fun (x : (El THost) × Int × Unit) hx => H (x.1) (x.2.1) hx
theorem newS.mk  (hs : SpecsOK Try.prog (newS.specs ))  (H : ∀ (x0 : (El THost)) (x1 : Int), newS.pre (x0, x1, ()) = true → ∃ m, newS.go  m x0 x1 = some (newS.res (x0, x1, ()), [])) : SpecOK Try.prog 15 newS.sp :=
  newS.mkR fun x0 x1 hx => (H x0 x1 hx).elim fun _ hm => newS.ret  hs  x0 x1 hm

/-! ### triage/triageref10.NewStatus -/
abbrev newR.ps : List AK := [.d true THost, .d false (.int .i64)]
def newR.pre : ElA newR.ps → Bool := fun (x : (El THost) × Int × Unit) => fits THost (x.1) && (fits (.int .i64) (x.2.1) && (true))
def newR.res : ElA newR.ps → IV := fun (x : (El THost) × Int × Unit) => (fun h n => mkIV true (enc TStatus (newB h n))) x.1 x.2.1
def newR.sp : ISpec := spOf newR.ps newR.pre newR.res
abbrev newR.OK : Prop := SpecOK Try.prog 24 newR.sp
noncomputable def newR.body : Code := bodyOf Try.f24
noncomputable def newR.rs : List ResultVar := Try.f24.results.toList
def newR.live : List (Nat × Live) := []
noncomputable def newR.specs  : List (Nat × (List Bool × ISpec)) := [(46, ([], copyR.sp)), (40, ([], timeR.sp))]
noncomputable def newR.ospecs  : List (Nat × OS) := []
noncomputable def newR.cfg  : Cfg := ⟨lkp tab, lkp (newR.specs ), lkp newR.live, ⟨lkp (newR.ospecs ), [], none, false, []⟩⟩
noncomputable def newR.go  (m : Nat) (x0 : (El THost)) (x1 : Int) : R := run (newR.cfg ) 11 newR.rs m [.code newR.body] (enter (ivA newR.ps (x0, x1, ())))
theorem newR.start  (m : Nat) (x0 : (El THost)) (x1 : Int) : newR.go  (m + 1) x0 x1 =
  test (copyR.pre (x0, Unit.unit)) (
   some ((.agg [(.v (.int .i64 x0.1)), (.v (.string x0.2.1)), (.v (.int .i64 x0.2.2.1)), (.v (.string x0.2.2.2.1)), (.v (.int .i64 x0.2.2.2.2.1)), (.sl TPair x0.2.2.2.2.2), (.v (.bool true)), (.v (.int .i64 (0 : Int))), (.v (.int .i64 (0 : Int))), (.v (.int .i64 (0 : Int))), (.v (.int .i64 (0 : Int))), (.v (.int .i64 (0 : Int))), (.v (.int .i64 (0 : Int))), (.v (.bool false)), (.v (.int .i64 (0 : Int))), (.v (.int .i64 (0 : Int))), (.v (.int .i64 (0 : Int))), (.v (.bool false)), (.v (.int .i64 (0 : Int))), (.v (.int .i64 (timeI x1))), (.v (.int .i64 (0 : Int)))]), [])) := by kernel_rfl
theorem newR.run_eq  (m : Nat) (x0 : (El THost)) (x1 : Int) : run (newR.cfg ) Try.f24.ntmps Try.f24.results.toList m [.code (bodyOf Try.f24)] (enter (ivA newR.ps (x0, x1, ()))) = newR.go  m x0 x1 := by kernel_rfl
theorem newR.ret  (hs : SpecsOK Try.prog (newR.specs ))  (x0 : (El THost)) (x1 : Int) {m : Nat} {r : IV} (h : newR.go  m x0 x1 = some (r, [])) : VE.Returns Try.prog 24 (ivA newR.ps (x0, x1, ())) r :=
  returns_of_run (cfg := newR.cfg ) (cfgOK_of mixed tab_ok hs .nil) rfl Try.func24 (body_some (by kernel_rfl)) (Nat.le_of_ble_eq_true (by kernel_rfl)) ((newR.run_eq  m x0 x1).trans h)
abbrev newR.Law : Prop := ∀ (x0 : (El THost)) (x1 : Int), newR.pre (x0, x1, ()) = true → VE.Returns Try.prog 24 (ivA newR.ps (x0, x1, ())) (newR.res (x0, x1, ()))
theorem newR.mkR (H : ∀ (x0 : (El THost)) (x1 : Int), newR.pre (x0, x1, ()) = true → VE.Returns Try.prog 24 (ivA newR.ps (x0, x1, ())) (newR.res (x0, x1, ()))) : SpecOK Try.prog 24 newR.sp :=
  specOf_ret Try.func24 (by kernel_rfl) (by kernel_rfl) fun (x : (El THost) × Int × Unit) hx => H (x.1) (x.2.1) hx
theorem newR.mk  (hs : SpecsOK Try.prog (newR.specs ))  (H : ∀ (x0 : (El THost)) (x1 : Int), newR.pre (x0, x1, ()) = true → ∃ m, newR.go  m x0 x1 = some (newR.res (x0, x1, ()), [])) : SpecOK Try.prog 24 newR.sp :=
  newR.mkR fun x0 x1 hx => (H x0 x1 hx).elim fun _ hm => newR.ret  hs  x0 x1 hm

/-! ### triage/triageref10.CopyOne -/
abbrev copyOne.ps : List AK := [.d true TStatus]
def copyOne.pre : ElA copyOne.ps → Bool := fun (x : (El TStatus) × Unit) => fits TStatus (x.1) && (true)
def copyOne.res : ElA copyOne.ps → IV := fun (x : (El TStatus) × Unit) => (fun s => mkIV true (enc TStatus s)) x.1
def copyOne.sp : ISpec := spOf copyOne.ps copyOne.pre copyOne.res
abbrev copyOne.OK : Prop := SpecOK Try.prog 43 copyOne.sp
noncomputable def copyOne.body : Code := bodyOf Try.f43
noncomputable def copyOne.rs : List ResultVar := Try.f43.results.toList
def copyOne.live : List (Nat × Live) := []
noncomputable def copyOne.specs  : List (Nat × (List Bool × ISpec)) := [(46, ([], copyR.sp))]
noncomputable def copyOne.ospecs  : List (Nat × OS) := []
noncomputable def copyOne.cfg  : Cfg := ⟨lkp tab, lkp (copyOne.specs ), lkp copyOne.live, ⟨lkp (copyOne.ospecs ), [], none, false, []⟩⟩
noncomputable def copyOne.go  (m : Nat) (x0 : (El TStatus)) : R := run (copyOne.cfg ) 8 copyOne.rs m [.code copyOne.body] (enter (ivA copyOne.ps (x0, ())))
theorem copyOne.start  (m : Nat) (x0 : (El TStatus)) : copyOne.go  (m + 1) x0 =
  test (copyR.pre (x0.1, Unit.unit)) (
   some ((.agg [(.v (.int .i64 x0.1.1)), (.v (.string x0.1.2.1)), (.v (.int .i64 x0.1.2.2.1)), (.v (.string x0.1.2.2.2.1)), (.v (.int .i64 x0.1.2.2.2.2.1)), (.sl TPair x0.1.2.2.2.2.2), (.v (.bool x0.2.1.1)), (.v (.int .i64 x0.2.1.2.1)), (.v (.int .i64 x0.2.1.2.2.1)), (.v (.int .i64 x0.2.1.2.2.2)), (.v (.int .i64 x0.2.2.1)), (.v (.int .i64 x0.2.2.2.1.1)), (.v (.int .i64 x0.2.2.2.1.2)), (.v (.bool x0.2.2.2.2.1.1)), (.v (.int .i64 x0.2.2.2.2.1.2.1)), (.v (.int .i64 x0.2.2.2.2.1.2.2.1)), (.v (.int .i64 x0.2.2.2.2.1.2.2.2)), (.v (.bool x0.2.2.2.2.2.1)), (.v (.int .i64 x0.2.2.2.2.2.2.1)), (.v (.int .i64 x0.2.2.2.2.2.2.2.1)), (.v (.int .i64 x0.2.2.2.2.2.2.2.2))]), [])) := by kernel_rfl
theorem copyOne.run_eq  (m : Nat) (x0 : (El TStatus)) : run (copyOne.cfg ) Try.f43.ntmps Try.f43.results.toList m [.code (bodyOf Try.f43)] (enter (ivA copyOne.ps (x0, ()))) = copyOne.go  m x0 := by kernel_rfl
theorem copyOne.ret  (hs : SpecsOK Try.prog (copyOne.specs ))  (x0 : (El TStatus)) {m : Nat} {r : IV} (h : copyOne.go  m x0 = some (r, [])) : VE.Returns Try.prog 43 (ivA copyOne.ps (x0, ())) r :=
  returns_of_run (cfg := copyOne.cfg ) (cfgOK_of mixed tab_ok hs .nil) rfl Try.func43 (body_some (by kernel_rfl)) (Nat.le_of_ble_eq_true (by kernel_rfl)) ((copyOne.run_eq  m x0).trans h)
abbrev copyOne.Law : Prop := ∀ (x0 : (El TStatus)), copyOne.pre (x0, ()) = true → VE.Returns Try.prog 43 (ivA copyOne.ps (x0, ())) (copyOne.res (x0, ()))
theorem copyOne.mkR (H : ∀ (x0 : (El TStatus)), copyOne.pre (x0, ()) = true → VE.Returns Try.prog 43 (ivA copyOne.ps (x0, ())) (copyOne.res (x0, ()))) : SpecOK Try.prog 43 copyOne.sp :=
  specOf_ret Try.func43 (by kernel_rfl) (by kernel_rfl) fun (x : (El TStatus) × Unit) hx => H (x.1) hx
theorem copyOne.mk  (hs : SpecsOK Try.prog (copyOne.specs ))  (H : ∀ (x0 : (El TStatus)), copyOne.pre (x0, ()) = true → ∃ m, copyOne.go  m x0 = some (copyOne.res (x0, ()), [])) : SpecOK Try.prog 43 copyOne.sp :=
  copyOne.mkR fun x0 hx => (H x0 hx).elim fun _ hm => copyOne.ret  hs  x0 hm

/-! ### triage/state.Members$1 -/
abbrev memF.ps : List AK := [.d true TStatus]
def memF.pre : ElA memF.ps → Bool := fun (x : (El TStatus) × Unit) => fits TStatus (x.1) && (true)
def memF.res : ElA memF.ps → IV := fun (x : (El TStatus) × Unit) => (fun s => vb (memB s)) x.1
def memF.sp : ISpec := spOf memF.ps memF.pre memF.res
abbrev memF.OK : Prop := SpecOK Try.prog 32 memF.sp
noncomputable def memF.body : Code := bodyOf Try.f32
noncomputable def memF.rs : List ResultVar := Try.f32.results.toList
def memF.live : List (Nat × Live) := []
noncomputable def memF.specs  : List (Nat × (List Bool × ISpec)) := []
noncomputable def memF.ospecs  : List (Nat × OS) := []
noncomputable def memF.cfg  : Cfg := ⟨lkp tab, lkp (memF.specs ), lkp memF.live, ⟨lkp (memF.ospecs ), [], none, false, []⟩⟩
noncomputable def memF.go  (m : Nat) (x0 : (El TStatus)) : R := run (memF.cfg ) 6 memF.rs m [.code memF.body] (enter (ivA memF.ps (x0, ())))
theorem memF.start  (m : Nat) (x0 : (El TStatus)) : memF.go  (m + 1) x0 =
  some ((.c (.v (.bool (Bool.not x0.2.2.2.2.2.1)))), []) := by kernel_rfl
theorem memF.run_eq  (m : Nat) (x0 : (El TStatus)) : run (memF.cfg ) Try.f32.ntmps Try.f32.results.toList m [.code (bodyOf Try.f32)] (enter (ivA memF.ps (x0, ()))) = memF.go  m x0 := by kernel_rfl
theorem memF.ret  (hs : SpecsOK Try.prog (memF.specs ))  (x0 : (El TStatus)) {m : Nat} {r : IV} (h : memF.go  m x0 = some (r, [])) : VE.Returns Try.prog 32 (ivA memF.ps (x0, ())) r :=
  returns_of_run (cfg := memF.cfg ) (cfgOK_of mixed tab_ok hs .nil) rfl Try.func32 (body_some (by kernel_rfl)) (Nat.le_of_ble_eq_true (by kernel_rfl)) ((memF.run_eq  m x0).trans h)
abbrev memF.Law : Prop := ∀ (x0 : (El TStatus)), memF.pre (x0, ()) = true → VE.Returns Try.prog 32 (ivA memF.ps (x0, ())) (memF.res (x0, ()))
theorem memF.mkR (H : ∀ (x0 : (El TStatus)), memF.pre (x0, ()) = true → VE.Returns Try.prog 32 (ivA memF.ps (x0, ())) (memF.res (x0, ()))) : SpecOK Try.prog 32 memF.sp :=
  specOf_ret Try.func32 (by kernel_rfl) (by kernel_rfl) fun (x : (El TStatus) × Unit) hx => H (x.1) hx
theorem memF.mk  (hs : SpecsOK Try.prog (memF.specs ))  (H : ∀ (x0 : (El TStatus)), memF.pre (x0, ()) = true → ∃ m, memF.go  m x0 = some (memF.res (x0, ()), [])) : SpecOK Try.prog 32 memF.sp :=
  memF.mkR fun x0 hx => (H x0 hx).elim fun _ hm => memF.ret  hs  x0 hm

/-! ### triage/state.Outs$1 -/
abbrev outF.ps : List AK := [.d true TStatus]
def outF.pre : ElA outF.ps → Bool := fun (x : (El TStatus) × Unit) => fits TStatus (x.1) && (true)
def outF.res : ElA outF.ps → IV := fun (x : (El TStatus) × Unit) => (fun s => vb (outB s)) x.1
def outF.sp : ISpec := spOf outF.ps outF.pre outF.res
abbrev outF.OK : Prop := SpecOK Try.prog 34 outF.sp
noncomputable def outF.body : Code := bodyOf Try.f34
noncomputable def outF.rs : List ResultVar := Try.f34.results.toList
def outF.live : List (Nat × Live) := []
noncomputable def outF.specs  : List (Nat × (List Bool × ISpec)) := []
noncomputable def outF.ospecs  : List (Nat × OS) := []
noncomputable def outF.cfg  : Cfg := ⟨lkp tab, lkp (outF.specs ), lkp outF.live, ⟨lkp (outF.ospecs ), [], none, false, []⟩⟩
noncomputable def outF.go  (m : Nat) (x0 : (El TStatus)) : R := run (outF.cfg ) 11 outF.rs m [.code outF.body] (enter (ivA outF.ps (x0, ())))
theorem outF.start  (m : Nat) (x0 : (El TStatus)) : outF.go  (m + 1) x0 =
  cond (Bool.not x0.2.2.2.2.2.1) (
   some ((.c (.v (.bool x0.2.2.2.2.1.1))), [])) (
   some ((.c (.v (.bool false))), [])) := by kernel_rfl
theorem outF.run_eq  (m : Nat) (x0 : (El TStatus)) : run (outF.cfg ) Try.f34.ntmps Try.f34.results.toList m [.code (bodyOf Try.f34)] (enter (ivA outF.ps (x0, ()))) = outF.go  m x0 := by kernel_rfl
theorem outF.ret  (hs : SpecsOK Try.prog (outF.specs ))  (x0 : (El TStatus)) {m : Nat} {r : IV} (h : outF.go  m x0 = some (r, [])) : VE.Returns Try.prog 34 (ivA outF.ps (x0, ())) r :=
  returns_of_run (cfg := outF.cfg ) (cfgOK_of mixed tab_ok hs .nil) rfl Try.func34 (body_some (by kernel_rfl)) (Nat.le_of_ble_eq_true (by kernel_rfl)) ((outF.run_eq  m x0).trans h)
abbrev outF.Law : Prop := ∀ (x0 : (El TStatus)), outF.pre (x0, ()) = true → VE.Returns Try.prog 34 (ivA outF.ps (x0, ())) (outF.res (x0, ()))
theorem outF.mkR (H : ∀ (x0 : (El TStatus)), outF.pre (x0, ()) = true → VE.Returns Try.prog 34 (ivA outF.ps (x0, ())) (outF.res (x0, ()))) : SpecOK Try.prog 34 outF.sp :=
  specOf_ret Try.func34 (by kernel_rfl) (by kernel_rfl) fun (x : (El TStatus) × Unit) hx => H (x.1) hx
theorem outF.mk  (hs : SpecsOK Try.prog (outF.specs ))  (H : ∀ (x0 : (El TStatus)), outF.pre (x0, ()) = true → ∃ m, outF.go  m x0 = some (outF.res (x0, ()), [])) : SpecOK Try.prog 34 outF.sp :=
  outF.mkR fun x0 hx => (H x0 hx).elim fun _ hm => outF.ret  hs  x0 hm

/-! ### triage/state.Copy$1 -/
abbrev allF.ps : List AK := [.d true TStatus]
def allF.pre : ElA allF.ps → Bool := fun (x : (El TStatus) × Unit) => fits TStatus (x.1) && (true)
def allF.res : ElA allF.ps → IV := fun (x : (El TStatus) × Unit) => (fun _ => vb true) x.1
def allF.sp : ISpec := spOf allF.ps allF.pre allF.res
abbrev allF.OK : Prop := SpecOK Try.prog 44 allF.sp
noncomputable def allF.body : Code := bodyOf Try.f44
noncomputable def allF.rs : List ResultVar := Try.f44.results.toList
def allF.live : List (Nat × Live) := []
noncomputable def allF.specs  : List (Nat × (List Bool × ISpec)) := []
noncomputable def allF.ospecs  : List (Nat × OS) := []
noncomputable def allF.cfg  : Cfg := ⟨lkp tab, lkp (allF.specs ), lkp allF.live, ⟨lkp (allF.ospecs ), [], none, false, []⟩⟩
noncomputable def allF.go  (m : Nat) (x0 : (El TStatus)) : R := run (allF.cfg ) 3 allF.rs m [.code allF.body] (enter (ivA allF.ps (x0, ())))
theorem allF.start  (m : Nat) (x0 : (El TStatus)) : allF.go  (m + 1) x0 =
  some ((.c (.v (.bool true))), []) := by kernel_rfl
theorem allF.run_eq  (m : Nat) (x0 : (El TStatus)) : run (allF.cfg ) Try.f44.ntmps Try.f44.results.toList m [.code (bodyOf Try.f44)] (enter (ivA allF.ps (x0, ()))) = allF.go  m x0 := by kernel_rfl
theorem allF.ret  (hs : SpecsOK Try.prog (allF.specs ))  (x0 : (El TStatus)) {m : Nat} {r : IV} (h : allF.go  m x0 = some (r, [])) : VE.Returns Try.prog 44 (ivA allF.ps (x0, ())) r :=
  returns_of_run (cfg := allF.cfg ) (cfgOK_of mixed tab_ok hs .nil) rfl Try.func44 (body_some (by kernel_rfl)) (Nat.le_of_ble_eq_true (by kernel_rfl)) ((allF.run_eq  m x0).trans h)
abbrev allF.Law : Prop := ∀ (x0 : (El TStatus)), allF.pre (x0, ()) = true → VE.Returns Try.prog 44 (ivA allF.ps (x0, ())) (allF.res (x0, ()))
theorem allF.mkR (H : ∀ (x0 : (El TStatus)), allF.pre (x0, ()) = true → VE.Returns Try.prog 44 (ivA allF.ps (x0, ())) (allF.res (x0, ()))) : SpecOK Try.prog 44 allF.sp :=
  specOf_ret Try.func44 (by kernel_rfl) (by kernel_rfl) fun (x : (El TStatus) × Unit) hx => H (x.1) hx
theorem allF.mk  (hs : SpecsOK Try.prog (allF.specs ))  (H : ∀ (x0 : (El TStatus)), allF.pre (x0, ()) = true → ∃ m, allF.go  m x0 = some (allF.res (x0, ()), [])) : SpecOK Try.prog 44 allF.sp :=
  allF.mkR fun x0 hx => (H x0 hx).elim fun _ hm => allF.ret  hs  x0 hm

/-! ### triage/state.picked -/
abbrev pickM.ps : List AK := [.d false (.sl TStatus), .f 32 []]
def pickM.pre : ElA pickM.ps → Bool := fun (x : (List (El TStatus)) × Unit × Unit) => fits (.sl TStatus) (x.1) && (true)
def pickM.res : ElA pickM.ps → IV := fun (x : (List (El TStatus)) × Unit × Unit) => (fun l _ => .c (.sl TStatus (List.filter memB l))) x.1 x.2.1
def pickM.sp : ISpec := spOf pickM.ps pickM.pre pickM.res
abbrev pickM.OK : Prop := SpecOK Try.prog 31 pickM.sp
noncomputable def pickM.body : Code := bodyOf Try.f31
noncomputable def pickM.rs : List ResultVar := Try.f31.results.toList
def pickM.live : List (Nat × Live) := [(3, ⟨[(1, .plain), (5, .arr 36 TStatus), (8, .sl TStatus), (9, .plain), (10, .plain)], []⟩)]
noncomputable def pickM.specs  : List (Nat × (List Bool × ISpec)) := [(32, ([], memF.sp)), (35, ([], copy.sp))]
noncomputable def pickM.ospecs  : List (Nat × OS) := []
noncomputable def pickM.cfg  : Cfg := ⟨lkp tab, lkp (pickM.specs ), lkp pickM.live, ⟨lkp (pickM.ospecs ), [], none, false, []⟩⟩
noncomputable def pickM.l1  (m : Nat) (x0 : List (El TStatus)) (x1 : Int) (x2 : Int) (x3 : List (El TStatus)) : R := run (pickM.cfg ) 27 pickM.rs m ((todoR 3 pickM.body []).getD []) ⟨ofList (.c .junk) [(1, (.c (.fn 32 []))), (5, (.c (.sref 766))), (8, (.c (.sl TStatus x0))), (9, (.c (.v (.int .i64 x1)))), (10, (.c (.v (.int .i64 x2))))], ofList none [(766, some (.arr 36 TStatus x3 false))], ofList false [(766, true)]⟩
noncomputable def pickM.go  (m : Nat) (x0 : (List (El TStatus))) (x1 : Unit) : R := run (pickM.cfg ) 27 pickM.rs m [.code pickM.body] (enter (ivA pickM.ps (x0, x1, ())))
theorem pickM.start  (m : Nat) (x0 : (List (El TStatus))) (x1 : Unit) : pickM.go  (m + 1) x0 x1 =
  pickM.l1  m x0 ((List.length x0) : Int) (0 : Int) ([] : List (El TStatus)) := by kernel_rfl
theorem pickM.s1  (m : Nat) (x0 : List (El TStatus)) (x1 : Int) (x2 : Int) (x3 : List (El TStatus)) : pickM.l1  (m + 1) x0 x1 x2 x3 =
  cond (decide (x2 < x1)) (
   test (decide ((0 : Int) ≤ x2)) (
    test (decide (x2 < ((List.length x0) : Int))) (
     test (memF.pre (((rdEl TStatus x0 (Int.toNat x2))), Unit.unit)) (
      cond (memB ((rdEl TStatus x0 (Int.toNat x2)))) (
       test (copy.pre (((rdEl TStatus x0 (Int.toNat x2))).1, Unit.unit)) (
        test (decide (((List.length x3) + (List.length (((rdEl TStatus x0 (Int.toNat x2))) :: ([] : List (El TStatus))))) ≤ (lim 200))) (
         pickM.l1  m x0 x1 (IntKind.i64.wrap (x2 + (1 : Int))) (x3 ++ (((rdEl TStatus x0 (Int.toNat x2))) :: ([] : List (El TStatus))))))) (
       pickM.l1  m x0 x1 (IntKind.i64.wrap (x2 + (1 : Int))) x3))))) (
   some ((.c (.sl TStatus x3)), [])) := by kernel_rfl
theorem pickM.run_eq  (m : Nat) (x0 : (List (El TStatus))) (x1 : Unit) : run (pickM.cfg ) Try.f31.ntmps Try.f31.results.toList m [.code (bodyOf Try.f31)] (enter (ivA pickM.ps (x0, x1, ()))) = pickM.go  m x0 x1 := by kernel_rfl
theorem pickM.ret  (hs : SpecsOK Try.prog (pickM.specs ))  (x0 : (List (El TStatus))) (x1 : Unit) {m : Nat} {r : IV} (h : pickM.go  m x0 x1 = some (r, [])) : VE.Returns Try.prog 31 (ivA pickM.ps (x0, x1, ())) r :=
  returns_of_run (cfg := pickM.cfg ) (cfgOK_of mixed tab_ok hs .nil) rfl Try.func31 (body_some (by kernel_rfl)) (Nat.le_of_ble_eq_true (by kernel_rfl)) ((pickM.run_eq  m x0 x1).trans h)
abbrev pickM.Law : Prop := ∀ (x0 : (List (El TStatus))) (x1 : Unit), pickM.pre (x0, x1, ()) = true → VE.Returns Try.prog 31 (ivA pickM.ps (x0, x1, ())) (pickM.res (x0, x1, ()))
theorem pickM.mkR (H : ∀ (x0 : (List (El TStatus))) (x1 : Unit), pickM.pre (x0, x1, ()) = true → VE.Returns Try.prog 31 (ivA pickM.ps (x0, x1, ())) (pickM.res (x0, x1, ()))) : SpecOK Try.prog 31 pickM.sp :=
  specOf_ret Try.func31 (by kernel_rfl) (by kernel_rfl) fun (x : (List (El TStatus)) × Unit × Unit) hx => H (x.1) (x.2.1) hx
theorem pickM.mk  (hs : SpecsOK Try.prog (pickM.specs ))  (H : ∀ (x0 : (List (El TStatus))) (x1 : Unit), pickM.pre (x0, x1, ()) = true → ∃ m, pickM.go  m x0 x1 = some (pickM.res (x0, x1, ()), [])) : SpecOK Try.prog 31 pickM.sp :=
  pickM.mkR fun x0 x1 hx => (H x0 x1 hx).elim fun _ hm => pickM.ret  hs  x0 x1 hm

/-! ### triage/state.picked -/
abbrev pickO.ps : List AK := [.d false (.sl TStatus), .f 34 []]
def pickO.pre : ElA pickO.ps → Bool := fun (x : (List (El TStatus)) × Unit × Unit) => fits (.sl TStatus) (x.1) && (true)
def pickO.res : ElA pickO.ps → IV := fun (x : (List (El TStatus)) × Unit × Unit) => (fun l _ => .c (.sl TStatus (List.filter outB l))) x.1 x.2.1
def pickO.sp : ISpec := spOf pickO.ps pickO.pre pickO.res
abbrev pickO.OK : Prop := SpecOK Try.prog 31 pickO.sp
noncomputable def pickO.body : Code := bodyOf Try.f31
noncomputable def pickO.rs : List ResultVar := Try.f31.results.toList
def pickO.live : List (Nat × Live) := [(3, ⟨[(1, .plain), (5, .arr 36 TStatus), (8, .sl TStatus), (9, .plain), (10, .plain)], []⟩)]
noncomputable def pickO.specs  : List (Nat × (List Bool × ISpec)) := [(34, ([], outF.sp)), (35, ([], copy.sp))]
noncomputable def pickO.ospecs  : List (Nat × OS) := []
noncomputable def pickO.cfg  : Cfg := ⟨lkp tab, lkp (pickO.specs ), lkp pickO.live, ⟨lkp (pickO.ospecs ), [], none, false, []⟩⟩
noncomputable def pickO.l1  (m : Nat) (x0 : List (El TStatus)) (x1 : Int) (x2 : Int) (x3 : List (El TStatus)) : R := run (pickO.cfg ) 27 pickO.rs m ((todoR 3 pickO.body []).getD []) ⟨ofList (.c .junk) [(1, (.c (.fn 34 []))), (5, (.c (.sref 766))), (8, (.c (.sl TStatus x0))), (9, (.c (.v (.int .i64 x1)))), (10, (.c (.v (.int .i64 x2))))], ofList none [(766, some (.arr 36 TStatus x3 false))], ofList false [(766, true)]⟩
noncomputable def pickO.go  (m : Nat) (x0 : (List (El TStatus))) (x1 : Unit) : R := run (pickO.cfg ) 27 pickO.rs m [.code pickO.body] (enter (ivA pickO.ps (x0, x1, ())))
theorem pickO.start  (m : Nat) (x0 : (List (El TStatus))) (x1 : Unit) : pickO.go  (m + 1) x0 x1 =
  pickO.l1  m x0 ((List.length x0) : Int) (0 : Int) ([] : List (El TStatus)) := by kernel_rfl
theorem pickO.s1  (m : Nat) (x0 : List (El TStatus)) (x1 : Int) (x2 : Int) (x3 : List (El TStatus)) : pickO.l1  (m + 1) x0 x1 x2 x3 =
  cond (decide (x2 < x1)) (
   test (decide ((0 : Int) ≤ x2)) (
    test (decide (x2 < ((List.length x0) : Int))) (
     test (outF.pre (((rdEl TStatus x0 (Int.toNat x2))), Unit.unit)) (
      cond (outB ((rdEl TStatus x0 (Int.toNat x2)))) (
       test (copy.pre (((rdEl TStatus x0 (Int.toNat x2))).1, Unit.unit)) (
        test (decide (((List.length x3) + (List.length (((rdEl TStatus x0 (Int.toNat x2))) :: ([] : List (El TStatus))))) ≤ (lim 200))) (
         pickO.l1  m x0 x1 (IntKind.i64.wrap (x2 + (1 : Int))) (x3 ++ (((rdEl TStatus x0 (Int.toNat x2))) :: ([] : List (El TStatus))))))) (
       pickO.l1  m x0 x1 (IntKind.i64.wrap (x2 + (1 : Int))) x3))))) (
   some ((.c (.sl TStatus x3)), [])) := by kernel_rfl
theorem pickO.run_eq  (m : Nat) (x0 : (List (El TStatus))) (x1 : Unit) : run (pickO.cfg ) Try.f31.ntmps Try.f31.results.toList m [.code (bodyOf Try.f31)] (enter (ivA pickO.ps (x0, x1, ()))) = pickO.go  m x0 x1 := by kernel_rfl
theorem pickO.ret  (hs : SpecsOK Try.prog (pickO.specs ))  (x0 : (List (El TStatus))) (x1 : Unit) {m : Nat} {r : IV} (h : pickO.go  m x0 x1 = some (r, [])) : VE.Returns Try.prog 31 (ivA pickO.ps (x0, x1, ())) r :=
  returns_of_run (cfg := pickO.cfg ) (cfgOK_of mixed tab_ok hs .nil) rfl Try.func31 (body_some (by kernel_rfl)) (Nat.le_of_ble_eq_true (by kernel_rfl)) ((pickO.run_eq  m x0 x1).trans h)
abbrev pickO.Law : Prop := ∀ (x0 : (List (El TStatus))) (x1 : Unit), pickO.pre (x0, x1, ()) = true → VE.Returns Try.prog 31 (ivA pickO.ps (x0, x1, ())) (pickO.res (x0, x1, ()))
theorem pickO.mkR (H : ∀ (x0 : (List (El TStatus))) (x1 : Unit), pickO.pre (x0, x1, ()) = true → VE.Returns Try.prog 31 (ivA pickO.ps (x0, x1, ())) (pickO.res (x0, x1, ()))) : SpecOK Try.prog 31 pickO.sp :=
  specOf_ret Try.func31 (by kernel_rfl) (by kernel_rfl) fun (x : (List (El TStatus)) × Unit × Unit) hx => H (x.1) (x.2.1) hx
theorem pickO.mk  (hs : SpecsOK Try.prog (pickO.specs ))  (H : ∀ (x0 : (List (El TStatus))) (x1 : Unit), pickO.pre (x0, x1, ()) = true → ∃ m, pickO.go  m x0 x1 = some (pickO.res (x0, x1, ()), [])) : SpecOK Try.prog 31 pickO.sp :=
  pickO.mkR fun x0 x1 hx => (H x0 x1 hx).elim fun _ hm => pickO.ret  hs  x0 x1 hm

/-! ### triage/state.picked -/
abbrev pickA.ps : List AK := [.d false (.sl TStatus), .f 44 []]
def pickA.pre : ElA pickA.ps → Bool := fun (x : (List (El TStatus)) × Unit × Unit) => fits (.sl TStatus) (x.1) && (true)
def pickA.res : ElA pickA.ps → IV := fun (x : (List (El TStatus)) × Unit × Unit) => (fun l _ => .c (.sl TStatus l)) x.1 x.2.1
def pickA.sp : ISpec := spOf pickA.ps pickA.pre pickA.res
abbrev pickA.OK : Prop := SpecOK Try.prog 31 pickA.sp
noncomputable def pickA.body : Code := bodyOf Try.f31
noncomputable def pickA.rs : List ResultVar := Try.f31.results.toList
def pickA.live : List (Nat × Live) := [(3, ⟨[(1, .plain), (5, .arr 36 TStatus), (8, .sl TStatus), (9, .plain), (10, .plain)], []⟩)]
noncomputable def pickA.specs  : List (Nat × (List Bool × ISpec)) := [(44, ([], allF.sp)), (35, ([], copy.sp))]
noncomputable def pickA.ospecs  : List (Nat × OS) := []
noncomputable def pickA.cfg  : Cfg := ⟨lkp tab, lkp (pickA.specs ), lkp pickA.live, ⟨lkp (pickA.ospecs ), [], none, false, []⟩⟩
noncomputable def pickA.l1  (m : Nat) (x0 : List (El TStatus)) (x1 : Int) (x2 : Int) (x3 : List (El TStatus)) : R := run (pickA.cfg ) 27 pickA.rs m ((todoR 3 pickA.body []).getD []) ⟨ofList (.c .junk) [(1, (.c (.fn 44 []))), (5, (.c (.sref 766))), (8, (.c (.sl TStatus x0))), (9, (.c (.v (.int .i64 x1)))), (10, (.c (.v (.int .i64 x2))))], ofList none [(766, some (.arr 36 TStatus x3 false))], ofList false [(766, true)]⟩
noncomputable def pickA.go  (m : Nat) (x0 : (List (El TStatus))) (x1 : Unit) : R := run (pickA.cfg ) 27 pickA.rs m [.code pickA.body] (enter (ivA pickA.ps (x0, x1, ())))
theorem pickA.start  (m : Nat) (x0 : (List (El TStatus))) (x1 : Unit) : pickA.go  (m + 1) x0 x1 =
  pickA.l1  m x0 ((List.length x0) : Int) (0 : Int) ([] : List (El TStatus)) := by kernel_rfl
theorem pickA.s1  (m : Nat) (x0 : List (El TStatus)) (x1 : Int) (x2 : Int) (x3 : List (El TStatus)) : pickA.l1  (m + 1) x0 x1 x2 x3 =
  cond (decide (x2 < x1)) (
   test (decide ((0 : Int) ≤ x2)) (
    test (decide (x2 < ((List.length x0) : Int))) (
     test (allF.pre (((rdEl TStatus x0 (Int.toNat x2))), Unit.unit)) (
      test (copy.pre (((rdEl TStatus x0 (Int.toNat x2))).1, Unit.unit)) (
       test (decide (((List.length x3) + (List.length (((rdEl TStatus x0 (Int.toNat x2))) :: ([] : List (El TStatus))))) ≤ (lim 200))) (
        pickA.l1  m x0 x1 (IntKind.i64.wrap (x2 + (1 : Int))) (x3 ++ (((rdEl TStatus x0 (Int.toNat x2))) :: ([] : List (El TStatus)))))))))) (
   some ((.c (.sl TStatus x3)), [])) := by kernel_rfl
theorem pickA.run_eq  (m : Nat) (x0 : (List (El TStatus))) (x1 : Unit) : run (pickA.cfg ) Try.f31.ntmps Try.f31.results.toList m [.code (bodyOf Try.f31)] (enter (ivA pickA.ps (x0, x1, ()))) = pickA.go  m x0 x1 := by kernel_rfl
theorem pickA.ret  (hs : SpecsOK Try.prog (pickA.specs ))  (x0 : (List (El TStatus))) (x1 : Unit) {m : Nat} {r : IV} (h : pickA.go  m x0 x1 = some (r, [])) : VE.Returns Try.prog 31 (ivA pickA.ps (x0, x1, ())) r :=
  returns_of_run (cfg := pickA.cfg ) (cfgOK_of mixed tab_ok hs .nil) rfl Try.func31 (body_some (by kernel_rfl)) (Nat.le_of_ble_eq_true (by kernel_rfl)) ((pickA.run_eq  m x0 x1).trans h)
abbrev pickA.Law : Prop := ∀ (x0 : (List (El TStatus))) (x1 : Unit), pickA.pre (x0, x1, ()) = true → VE.Returns Try.prog 31 (ivA pickA.ps (x0, x1, ())) (pickA.res (x0, x1, ()))
theorem pickA.mkR (H : ∀ (x0 : (List (El TStatus))) (x1 : Unit), pickA.pre (x0, x1, ()) = true → VE.Returns Try.prog 31 (ivA pickA.ps (x0, x1, ())) (pickA.res (x0, x1, ()))) : SpecOK Try.prog 31 pickA.sp :=
  specOf_ret Try.func31 (by kernel_rfl) (by kernel_rfl) fun (x : (List (El TStatus)) × Unit × Unit) hx => H (x.1) (x.2.1) hx
theorem pickA.mk  (hs : SpecsOK Try.prog (pickA.specs ))  (H : ∀ (x0 : (List (El TStatus))) (x1 : Unit), pickA.pre (x0, x1, ()) = true → ∃ m, pickA.go  m x0 x1 = some (pickA.res (x0, x1, ()), [])) : SpecOK Try.prog 31 pickA.sp :=
  pickA.mkR fun x0 x1 hx => (H x0 x1 hx).elim fun _ hm => pickA.ret  hs  x0 x1 hm

/-! ### triage/state.Members -/
abbrev members.ps : List AK := [.d false (.sl TStatus)]
def members.pre : ElA members.ps → Bool := fun (x : (List (El TStatus)) × Unit) => fits (.sl TStatus) (x.1) && (true)
def members.res : ElA members.ps → IV := fun (x : (List (El TStatus)) × Unit) => (fun l => .c (.sl TStatus (List.filter memB l))) x.1
def members.sp : ISpec := spOf members.ps members.pre members.res
abbrev members.OK : Prop := SpecOK Try.prog 10 members.sp
noncomputable def members.body : Code := bodyOf Try.f10
noncomputable def members.rs : List ResultVar := Try.f10.results.toList
def members.live : List (Nat × Live) := []
noncomputable def members.specs  : List (Nat × (List Bool × ISpec)) := [(31, ([], pickM.sp))]
noncomputable def members.ospecs  : List (Nat × OS) := []
noncomputable def members.cfg  : Cfg := ⟨lkp tab, lkp (members.specs ), lkp members.live, ⟨lkp (members.ospecs ), [], none, false, []⟩⟩
noncomputable def members.go  (m : Nat) (x0 : (List (El TStatus))) : R := run (members.cfg ) 5 members.rs m [.code members.body] (enter (ivA members.ps (x0, ())))
theorem members.start  (m : Nat) (x0 : (List (El TStatus))) : members.go  (m + 1) x0 =
  test (pickM.pre (x0, (Unit.unit, Unit.unit))) (
   some ((.c (.sl TStatus (List.filter memB x0))), [])) := by kernel_rfl
theorem members.run_eq  (m : Nat) (x0 : (List (El TStatus))) : run (members.cfg ) Try.f10.ntmps Try.f10.results.toList m [.code (bodyOf Try.f10)] (enter (ivA members.ps (x0, ()))) = members.go  m x0 := by kernel_rfl
theorem members.ret  (hs : SpecsOK Try.prog (members.specs ))  (x0 : (List (El TStatus))) {m : Nat} {r : IV} (h : members.go  m x0 = some (r, [])) : VE.Returns Try.prog 10 (ivA members.ps (x0, ())) r :=
  returns_of_run (cfg := members.cfg ) (cfgOK_of mixed tab_ok hs .nil) rfl Try.func10 (body_some (by kernel_rfl)) (Nat.le_of_ble_eq_true (by kernel_rfl)) ((members.run_eq  m x0).trans h)
abbrev members.Law : Prop := ∀ (x0 : (List (El TStatus))), members.pre (x0, ()) = true → VE.Returns Try.prog 10 (ivA members.ps (x0, ())) (members.res (x0, ()))
theorem members.mkR (H : ∀ (x0 : (List (El TStatus))), members.pre (x0, ()) = true → VE.Returns Try.prog 10 (ivA members.ps (x0, ())) (members.res (x0, ()))) : SpecOK Try.prog 10 members.sp :=
  specOf_ret Try.func10 (by kernel_rfl) (by kernel_rfl) fun (x : (List (El TStatus)) × Unit) hx => H (x.1) hx
theorem members.mk  (hs : SpecsOK Try.prog (members.specs ))  (H : ∀ (x0 : (List (El TStatus))), members.pre (x0, ()) = true → ∃ m, members.go  m x0 = some (members.res (x0, ()), [])) : SpecOK Try.prog 10 members.sp :=
  members.mkR fun x0 hx => (H x0 hx).elim fun _ hm => members.ret  hs  x0 hm

/-! ### triage/triageref10.Members -/
abbrev membersR.ps : List AK := [.d false (.sl TStatus)]
def membersR.pre : ElA membersR.ps → Bool := fun (x : (List (El TStatus)) × Unit) => fits (.sl TStatus) (x.1) && (true)
def membersR.res : ElA membersR.ps → IV := fun (x : (List (El TStatus)) × Unit) => (fun l => .c (.sl TStatus (List.filter memB l))) x.1
def membersR.sp : ISpec := spOf membersR.ps membersR.pre membersR.res
abbrev membersR.OK : Prop := SpecOK Try.prog 27 membersR.sp
noncomputable def membersR.body : Code := bodyOf Try.f27
noncomputable def membersR.rs : List ResultVar := Try.f27.results.toList
def membersR.live : List (Nat × Live) := [(3, ⟨[(3, .arr 36 TStatus), (6, .sl TStatus), (7, .plain), (8, .plain)], []⟩)]
noncomputable def membersR.specs  : List (Nat × (List Bool × ISpec)) := [(43, ([], copyOne.sp))]
noncomputable def membersR.ospecs  : List (Nat × OS) := []
noncomputable def membersR.cfg  : Cfg := ⟨lkp tab, lkp (membersR.specs ), lkp membersR.live, ⟨lkp (membersR.ospecs ), [], none, false, []⟩⟩
noncomputable def membersR.l1  (m : Nat) (x0 : List (El TStatus)) (x1 : Int) (x2 : Int) (x3 : List (El TStatus)) : R := run (membersR.cfg ) 22 membersR.rs m ((todoR 3 membersR.body []).getD []) ⟨ofList (.c .junk) [(3, (.c (.sref 510))), (6, (.c (.sl TStatus x0))), (7, (.c (.v (.int .i64 x1)))), (8, (.c (.v (.int .i64 x2))))], ofList none [(510, some (.arr 36 TStatus x3 false))], ofList false [(510, true)]⟩
noncomputable def membersR.go  (m : Nat) (x0 : (List (El TStatus))) : R := run (membersR.cfg ) 22 membersR.rs m [.code membersR.body] (enter (ivA membersR.ps (x0, ())))
theorem membersR.start  (m : Nat) (x0 : (List (El TStatus))) : membersR.go  (m + 1) x0 =
  membersR.l1  m x0 ((List.length x0) : Int) (0 : Int) ([] : List (El TStatus)) := by kernel_rfl
theorem membersR.s1  (m : Nat) (x0 : List (El TStatus)) (x1 : Int) (x2 : Int) (x3 : List (El TStatus)) : membersR.l1  (m + 1) x0 x1 x2 x3 =
  cond (decide (x2 < x1)) (
   test (decide ((0 : Int) ≤ x2)) (
    test (decide (x2 < ((List.length x0) : Int))) (
     cond (Bool.not (((((((rdEl TStatus x0 (Int.toNat x2))).2).2).2).2).2).1) (
      test (copyOne.pre (((rdEl TStatus x0 (Int.toNat x2))), Unit.unit)) (
       test (decide (((List.length x3) + (List.length (((rdEl TStatus x0 (Int.toNat x2))) :: ([] : List (El TStatus))))) ≤ (lim 200))) (
        membersR.l1  m x0 x1 (IntKind.i64.wrap (x2 + (1 : Int))) (x3 ++ (((rdEl TStatus x0 (Int.toNat x2))) :: ([] : List (El TStatus))))))) (
      membersR.l1  m x0 x1 (IntKind.i64.wrap (x2 + (1 : Int))) x3)))) (
   some ((.c (.sl TStatus x3)), [])) := by kernel_rfl
theorem membersR.run_eq  (m : Nat) (x0 : (List (El TStatus))) : run (membersR.cfg ) Try.f27.ntmps Try.f27.results.toList m [.code (bodyOf Try.f27)] (enter (ivA membersR.ps (x0, ()))) = membersR.go  m x0 := by kernel_rfl
theorem membersR.ret  (hs : SpecsOK Try.prog (membersR.specs ))  (x0 : (List (El TStatus))) {m : Nat} {r : IV} (h : membersR.go  m x0 = some (r, [])) : VE.Returns Try.prog 27 (ivA membersR.ps (x0, ())) r :=
  returns_of_run (cfg := membersR.cfg ) (cfgOK_of mixed tab_ok hs .nil) rfl Try.func27 (body_some (by kernel_rfl)) (Nat.le_of_ble_eq_true (by kernel_rfl)) ((membersR.run_eq  m x0).trans h)
abbrev membersR.Law : Prop := ∀ (x0 : (List (El TStatus))), membersR.pre (x0, ()) = true → VE.Returns Try.prog 27 (ivA membersR.ps (x0, ())) (membersR.res (x0, ()))
theorem membersR.mkR (H : ∀ (x0 : (List (El TStatus))), membersR.pre (x0, ()) = true → VE.Returns Try.prog 27 (ivA membersR.ps (x0, ())) (membersR.res (x0, ()))) : SpecOK Try.prog 27 membersR.sp :=
  specOf_ret Try.func27 (by kernel_rfl) (by kernel_rfl) fun (x : (List (El TStatus)) × Unit) hx => H (x.1) hx
theorem membersR.mk  (hs : SpecsOK Try.prog (membersR.specs ))  (H : ∀ (x0 : (List (El TStatus))), membersR.pre (x0, ()) = true → ∃ m, membersR.go  m x0 = some (membersR.res (x0, ()), [])) : SpecOK Try.prog 27 membersR.sp :=
  membersR.mkR fun x0 hx => (H x0 hx).elim fun _ hm => membersR.ret  hs  x0 hm

/-! ### triage/state.Outs -/
abbrev outs.ps : List AK := [.d false (.sl TStatus)]
def outs.pre : ElA outs.ps → Bool := fun (x : (List (El TStatus)) × Unit) => fits (.sl TStatus) (x.1) && (true)
def outs.res : ElA outs.ps → IV := fun (x : (List (El TStatus)) × Unit) => (fun l => vi .i64 ((List.filter outB l).length : Int)) x.1
def outs.sp : ISpec := spOf outs.ps outs.pre outs.res
abbrev outs.OK : Prop := SpecOK Try.prog 12 outs.sp
noncomputable def outs.body : Code := bodyOf Try.f12
noncomputable def outs.rs : List ResultVar := Try.f12.results.toList
def outs.live : List (Nat × Live) := []
noncomputable def outs.specs  : List (Nat × (List Bool × ISpec)) := [(31, ([], pickO.sp))]
noncomputable def outs.ospecs  : List (Nat × OS) := []
noncomputable def outs.cfg  : Cfg := ⟨lkp tab, lkp (outs.specs ), lkp outs.live, ⟨lkp (outs.ospecs ), [], none, false, []⟩⟩
noncomputable def outs.go  (m : Nat) (x0 : (List (El TStatus))) : R := run (outs.cfg ) 6 outs.rs m [.code outs.body] (enter (ivA outs.ps (x0, ())))
theorem outs.start  (m : Nat) (x0 : (List (El TStatus))) : outs.go  (m + 1) x0 =
  test (pickO.pre (x0, (Unit.unit, Unit.unit))) (
   some ((.c (.v (.int .i64 ((List.length (List.filter outB x0)) : Int)))), [])) := by kernel_rfl
theorem outs.run_eq  (m : Nat) (x0 : (List (El TStatus))) : run (outs.cfg ) Try.f12.ntmps Try.f12.results.toList m [.code (bodyOf Try.f12)] (enter (ivA outs.ps (x0, ()))) = outs.go  m x0 := by kernel_rfl
theorem outs.ret  (hs : SpecsOK Try.prog (outs.specs ))  (x0 : (List (El TStatus))) {m : Nat} {r : IV} (h : outs.go  m x0 = some (r, [])) : VE.Returns Try.prog 12 (ivA outs.ps (x0, ())) r :=
  returns_of_run (cfg := outs.cfg ) (cfgOK_of mixed tab_ok hs .nil) rfl Try.func12 (body_some (by kernel_rfl)) (Nat.le_of_ble_eq_true (by kernel_rfl)) ((outs.run_eq  m x0).trans h)
abbrev outs.Law : Prop := ∀ (x0 : (List (El TStatus))), outs.pre (x0, ()) = true → VE.Returns Try.prog 12 (ivA outs.ps (x0, ())) (outs.res (x0, ()))
theorem outs.mkR (H : ∀ (x0 : (List (El TStatus))), outs.pre (x0, ()) = true → VE.Returns Try.prog 12 (ivA outs.ps (x0, ())) (outs.res (x0, ()))) : SpecOK Try.prog 12 outs.sp :=
  specOf_ret Try.func12 (by kernel_rfl) (by kernel_rfl) fun (x : (List (El TStatus)) × Unit) hx => H (x.1) hx
theorem outs.mk  (hs : SpecsOK Try.prog (outs.specs ))  (H : ∀ (x0 : (List (El TStatus))), outs.pre (x0, ()) = true → ∃ m, outs.go  m x0 = some (outs.res (x0, ()), [])) : SpecOK Try.prog 12 outs.sp :=
  outs.mkR fun x0 hx => (H x0 hx).elim fun _ hm => outs.ret  hs  x0 hm

/-! ### triage/triageref10.Outs -/
abbrev outsR.ps : List AK := [.d false (.sl TStatus)]
def outsR.pre : ElA outsR.ps → Bool := fun (x : (List (El TStatus)) × Unit) => fits (.sl TStatus) (x.1) && (true)
def outsR.res : ElA outsR.ps → IV := fun (x : (List (El TStatus)) × Unit) => (fun l => vi .i64 ((List.filter outB l).length : Int)) x.1
def outsR.sp : ISpec := spOf outsR.ps outsR.pre outsR.res
abbrev outsR.OK : Prop := SpecOK Try.prog 28 outsR.sp
noncomputable def outsR.body : Code := bodyOf Try.f28
noncomputable def outsR.rs : List ResultVar := Try.f28.results.toList
def outsR.live : List (Nat × Live) := [(3, ⟨[(3, .plain), (6, .sl TStatus), (7, .plain), (8, .plain)], []⟩)]
noncomputable def outsR.specs  : List (Nat × (List Bool × ISpec)) := []
noncomputable def outsR.ospecs  : List (Nat × OS) := []
noncomputable def outsR.cfg  : Cfg := ⟨lkp tab, lkp (outsR.specs ), lkp outsR.live, ⟨lkp (outsR.ospecs ), [], none, false, []⟩⟩
noncomputable def outsR.l1  (m : Nat) (x0 : Int) (x1 : List (El TStatus)) (x2 : Int) (x3 : Int) : R := run (outsR.cfg ) 24 outsR.rs m ((todoR 3 outsR.body []).getD []) ⟨ofList (.c .junk) [(3, (.c (.v (.int .i64 x0)))), (6, (.c (.sl TStatus x1))), (7, (.c (.v (.int .i64 x2)))), (8, (.c (.v (.int .i64 x3))))], ofList none [], ofList false []⟩
noncomputable def outsR.go  (m : Nat) (x0 : (List (El TStatus))) : R := run (outsR.cfg ) 24 outsR.rs m [.code outsR.body] (enter (ivA outsR.ps (x0, ())))
theorem outsR.start  (m : Nat) (x0 : (List (El TStatus))) : outsR.go  (m + 1) x0 =
  outsR.l1  m (0 : Int) x0 ((List.length x0) : Int) (0 : Int) := by kernel_rfl
theorem outsR.s1  (m : Nat) (x0 : Int) (x1 : List (El TStatus)) (x2 : Int) (x3 : Int) : outsR.l1  (m + 1) x0 x1 x2 x3 =
  cond (decide (x3 < x2)) (
   test (decide ((0 : Int) ≤ x3)) (
    test (decide (x3 < ((List.length x1) : Int))) (
     cond (Bool.not (((((((rdEl TStatus x1 (Int.toNat x3))).2).2).2).2).2).1) (
      cond (((((((rdEl TStatus x1 (Int.toNat x3))).2).2).2).2).1).1 (
       outsR.l1  m (IntKind.i64.wrap (x0 + (1 : Int))) x1 x2 (IntKind.i64.wrap (x3 + (1 : Int)))) (
       outsR.l1  m x0 x1 x2 (IntKind.i64.wrap (x3 + (1 : Int))))) (
      outsR.l1  m x0 x1 x2 (IntKind.i64.wrap (x3 + (1 : Int))))))) (
   some ((.c (.v (.int .i64 x0))), [])) := by kernel_rfl
theorem outsR.run_eq  (m : Nat) (x0 : (List (El TStatus))) : run (outsR.cfg ) Try.f28.ntmps Try.f28.results.toList m [.code (bodyOf Try.f28)] (enter (ivA outsR.ps (x0, ()))) = outsR.go  m x0 := by kernel_rfl
theorem outsR.ret  (hs : SpecsOK Try.prog (outsR.specs ))  (x0 : (List (El TStatus))) {m : Nat} {r : IV} (h : outsR.go  m x0 = some (r, [])) : VE.Returns Try.prog 28 (ivA outsR.ps (x0, ())) r :=
  returns_of_run (cfg := outsR.cfg ) (cfgOK_of mixed tab_ok hs .nil) rfl Try.func28 (body_some (by kernel_rfl)) (Nat.le_of_ble_eq_true (by kernel_rfl)) ((outsR.run_eq  m x0).trans h)
abbrev outsR.Law : Prop := ∀ (x0 : (List (El TStatus))), outsR.pre (x0, ()) = true → VE.Returns Try.prog 28 (ivA outsR.ps (x0, ())) (outsR.res (x0, ()))
theorem outsR.mkR (H : ∀ (x0 : (List (El TStatus))), outsR.pre (x0, ()) = true → VE.Returns Try.prog 28 (ivA outsR.ps (x0, ())) (outsR.res (x0, ()))) : SpecOK Try.prog 28 outsR.sp :=
  specOf_ret Try.func28 (by kernel_rfl) (by kernel_rfl) fun (x : (List (El TStatus)) × Unit) hx => H (x.1) hx
theorem outsR.mk  (hs : SpecsOK Try.prog (outsR.specs ))  (H : ∀ (x0 : (List (El TStatus))), outsR.pre (x0, ()) = true → ∃ m, outsR.go  m x0 = some (outsR.res (x0, ()), [])) : SpecOK Try.prog 28 outsR.sp :=
  outsR.mkR fun x0 hx => (H x0 hx).elim fun _ hm => outsR.ret  hs  x0 hm

/-! ### triage/state.Copy -/
abbrev copyS.ps : List AK := [.d false (.sl TStatus)]
def copyS.pre : ElA copyS.ps → Bool := fun (x : (List (El TStatus)) × Unit) => fits (.sl TStatus) (x.1) && (true)
def copyS.res : ElA copyS.ps → IV := fun (x : (List (El TStatus)) × Unit) => (fun l => .c (.sl TStatus l)) x.1
def copyS.sp : ISpec := spOf copyS.ps copyS.pre copyS.res
abbrev copyS.OK : Prop := SpecOK Try.prog 22 copyS.sp
noncomputable def copyS.body : Code := bodyOf Try.f22
noncomputable def copyS.rs : List ResultVar := Try.f22.results.toList
def copyS.live : List (Nat × Live) := []
noncomputable def copyS.specs  : List (Nat × (List Bool × ISpec)) := [(31, ([], pickA.sp))]
noncomputable def copyS.ospecs  : List (Nat × OS) := []
noncomputable def copyS.cfg  : Cfg := ⟨lkp tab, lkp (copyS.specs ), lkp copyS.live, ⟨lkp (copyS.ospecs ), [], none, false, []⟩⟩
noncomputable def copyS.go  (m : Nat) (x0 : (List (El TStatus))) : R := run (copyS.cfg ) 5 copyS.rs m [.code copyS.body] (enter (ivA copyS.ps (x0, ())))
theorem copyS.start  (m : Nat) (x0 : (List (El TStatus))) : copyS.go  (m + 1) x0 =
  test (pickA.pre (x0, (Unit.unit, Unit.unit))) (
   some ((.c (.sl TStatus x0)), [])) := by kernel_rfl
theorem copyS.run_eq  (m : Nat) (x0 : (List (El TStatus))) : run (copyS.cfg ) Try.f22.ntmps Try.f22.results.toList m [.code (bodyOf Try.f22)] (enter (ivA copyS.ps (x0, ()))) = copyS.go  m x0 := by kernel_rfl
theorem copyS.ret  (hs : SpecsOK Try.prog (copyS.specs ))  (x0 : (List (El TStatus))) {m : Nat} {r : IV} (h : copyS.go  m x0 = some (r, [])) : VE.Returns Try.prog 22 (ivA copyS.ps (x0, ())) r :=
  returns_of_run (cfg := copyS.cfg ) (cfgOK_of mixed tab_ok hs .nil) rfl Try.func22 (body_some (by kernel_rfl)) (Nat.le_of_ble_eq_true (by kernel_rfl)) ((copyS.run_eq  m x0).trans h)
abbrev copyS.Law : Prop := ∀ (x0 : (List (El TStatus))), copyS.pre (x0, ()) = true → VE.Returns Try.prog 22 (ivA copyS.ps (x0, ())) (copyS.res (x0, ()))
theorem copyS.mkR (H : ∀ (x0 : (List (El TStatus))), copyS.pre (x0, ()) = true → VE.Returns Try.prog 22 (ivA copyS.ps (x0, ())) (copyS.res (x0, ()))) : SpecOK Try.prog 22 copyS.sp :=
  specOf_ret Try.func22 (by kernel_rfl) (by kernel_rfl) fun (x : (List (El TStatus)) × Unit) hx => H (x.1) hx
theorem copyS.mk  (hs : SpecsOK Try.prog (copyS.specs ))  (H : ∀ (x0 : (List (El TStatus))), copyS.pre (x0, ()) = true → ∃ m, copyS.go  m x0 = some (copyS.res (x0, ()), [])) : SpecOK Try.prog 22 copyS.sp :=
  copyS.mkR fun x0 hx => (H x0 hx).elim fun _ hm => copyS.ret  hs  x0 hm

/-! ### triage/triageref10.Copy -/
abbrev copySR.ps : List AK := [.d false (.sl TStatus)]
def copySR.pre : ElA copySR.ps → Bool := fun (x : (List (El TStatus)) × Unit) => fits (.sl TStatus) (x.1) && (true)
def copySR.res : ElA copySR.ps → IV := fun (x : (List (El TStatus)) × Unit) => (fun l => .c (.sl TStatus l)) x.1
def copySR.sp : ISpec := spOf copySR.ps copySR.pre copySR.res
abbrev copySR.OK : Prop := SpecOK Try.prog 21 copySR.sp
noncomputable def copySR.body : Code := bodyOf Try.f21
noncomputable def copySR.rs : List ResultVar := Try.f21.results.toList
def copySR.live : List (Nat × Live) := [(3, ⟨[(3, .arr 36 TStatus), (6, .sl TStatus), (7, .plain), (8, .plain)], []⟩)]
noncomputable def copySR.specs  : List (Nat × (List Bool × ISpec)) := [(43, ([], copyOne.sp))]
noncomputable def copySR.ospecs  : List (Nat × OS) := []
noncomputable def copySR.cfg  : Cfg := ⟨lkp tab, lkp (copySR.specs ), lkp copySR.live, ⟨lkp (copySR.ospecs ), [], none, false, []⟩⟩
noncomputable def copySR.l1  (m : Nat) (x0 : List (El TStatus)) (x1 : Int) (x2 : Int) (x3 : List (El TStatus)) : R := run (copySR.cfg ) 19 copySR.rs m ((todoR 3 copySR.body []).getD []) ⟨ofList (.c .junk) [(3, (.c (.sref 510))), (6, (.c (.sl TStatus x0))), (7, (.c (.v (.int .i64 x1)))), (8, (.c (.v (.int .i64 x2))))], ofList none [(510, some (.arr 36 TStatus x3 false))], ofList false [(510, true)]⟩
noncomputable def copySR.go  (m : Nat) (x0 : (List (El TStatus))) : R := run (copySR.cfg ) 19 copySR.rs m [.code copySR.body] (enter (ivA copySR.ps (x0, ())))
theorem copySR.start  (m : Nat) (x0 : (List (El TStatus))) : copySR.go  (m + 1) x0 =
  copySR.l1  m x0 ((List.length x0) : Int) (0 : Int) ([] : List (El TStatus)) := by kernel_rfl
theorem copySR.s1  (m : Nat) (x0 : List (El TStatus)) (x1 : Int) (x2 : Int) (x3 : List (El TStatus)) : copySR.l1  (m + 1) x0 x1 x2 x3 =
  cond (decide (x2 < x1)) (
   test (decide ((0 : Int) ≤ x2)) (
    test (decide (x2 < ((List.length x0) : Int))) (
     test (copyOne.pre (((rdEl TStatus x0 (Int.toNat x2))), Unit.unit)) (
      test (decide (((List.length x3) + (List.length (((rdEl TStatus x0 (Int.toNat x2))) :: ([] : List (El TStatus))))) ≤ (lim 200))) (
       copySR.l1  m x0 x1 (IntKind.i64.wrap (x2 + (1 : Int))) (x3 ++ (((rdEl TStatus x0 (Int.toNat x2))) :: ([] : List (El TStatus))))))))) (
   some ((.c (.sl TStatus x3)), [])) := by kernel_rfl
theorem copySR.run_eq  (m : Nat) (x0 : (List (El TStatus))) : run (copySR.cfg ) Try.f21.ntmps Try.f21.results.toList m [.code (bodyOf Try.f21)] (enter (ivA copySR.ps (x0, ()))) = copySR.go  m x0 := by kernel_rfl
theorem copySR.ret  (hs : SpecsOK Try.prog (copySR.specs ))  (x0 : (List (El TStatus))) {m : Nat} {r : IV} (h : copySR.go  m x0 = some (r, [])) : VE.Returns Try.prog 21 (ivA copySR.ps (x0, ())) r :=
  returns_of_run (cfg := copySR.cfg ) (cfgOK_of mixed tab_ok hs .nil) rfl Try.func21 (body_some (by kernel_rfl)) (Nat.le_of_ble_eq_true (by kernel_rfl)) ((copySR.run_eq  m x0).trans h)
abbrev copySR.Law : Prop := ∀ (x0 : (List (El TStatus))), copySR.pre (x0, ()) = true → VE.Returns Try.prog 21 (ivA copySR.ps (x0, ())) (copySR.res (x0, ()))
theorem copySR.mkR (H : ∀ (x0 : (List (El TStatus))), copySR.pre (x0, ()) = true → VE.Returns Try.prog 21 (ivA copySR.ps (x0, ())) (copySR.res (x0, ()))) : SpecOK Try.prog 21 copySR.sp :=
  specOf_ret Try.func21 (by kernel_rfl) (by kernel_rfl) fun (x : (List (El TStatus)) × Unit) hx => H (x.1) hx
theorem copySR.mk  (hs : SpecsOK Try.prog (copySR.specs ))  (H : ∀ (x0 : (List (El TStatus))), copySR.pre (x0, ()) = true → ∃ m, copySR.go  m x0 = some (copySR.res (x0, ()), [])) : SpecOK Try.prog 21 copySR.sp :=
  copySR.mkR fun x0 hx => (H x0 hx).elim fun _ hm => copySR.ret  hs  x0 hm

/-! ### triage/state.Hosts -/
abbrev hosts.ps : List AK := [.d false (.sl TStatus)]
def hosts.pre : ElA hosts.ps → Bool := fun (x : (List (El TStatus)) × Unit) => fits (.sl TStatus) (x.1) && (true)
def hosts.res : ElA hosts.ps → IV := fun (x : (List (El TStatus)) × Unit) => (fun l => .c (.sl THost (hostsL l))) x.1
def hosts.sp : ISpec := spOf hosts.ps hosts.pre hosts.res
abbrev hosts.OK : Prop := SpecOK Try.prog 20 hosts.sp
noncomputable def hosts.body : Code := bodyOf Try.f20
noncomputable def hosts.rs : List ResultVar := Try.f20.results.toList
def hosts.live : List (Nat × Live) := [(3, ⟨[(3, .arr 28 THost), (6, .sl TStatus), (7, .plain), (8, .plain)], []⟩)]
noncomputable def hosts.specs  : List (Nat × (List Bool × ISpec)) := [(35, ([], copy.sp))]
noncomputable def hosts.ospecs  : List (Nat × OS) := []
noncomputable def hosts.cfg  : Cfg := ⟨lkp tab, lkp (hosts.specs ), lkp hosts.live, ⟨lkp (hosts.ospecs ), [], none, false, []⟩⟩
noncomputable def hosts.l1  (m : Nat) (x0 : List (El TStatus)) (x1 : Int) (x2 : Int) (x3 : List (El THost)) : R := run (hosts.cfg ) 20 hosts.rs m ((todoR 3 hosts.body []).getD []) ⟨ofList (.c .junk) [(3, (.c (.sref 510))), (6, (.c (.sl TStatus x0))), (7, (.c (.v (.int .i64 x1)))), (8, (.c (.v (.int .i64 x2))))], ofList none [(510, some (.arr 28 THost x3 false))], ofList false [(510, true)]⟩
noncomputable def hosts.go  (m : Nat) (x0 : (List (El TStatus))) : R := run (hosts.cfg ) 20 hosts.rs m [.code hosts.body] (enter (ivA hosts.ps (x0, ())))
theorem hosts.start  (m : Nat) (x0 : (List (El TStatus))) : hosts.go  (m + 1) x0 =
  hosts.l1  m x0 ((List.length x0) : Int) (0 : Int) ([] : List (El THost)) := by kernel_rfl
theorem hosts.s1  (m : Nat) (x0 : List (El TStatus)) (x1 : Int) (x2 : Int) (x3 : List (El THost)) : hosts.l1  (m + 1) x0 x1 x2 x3 =
  cond (decide (x2 < x1)) (
   test (decide ((0 : Int) ≤ x2)) (
    test (decide (x2 < ((List.length x0) : Int))) (
     test (copy.pre (((rdEl TStatus x0 (Int.toNat x2))).1, Unit.unit)) (
      test (decide (((List.length x3) + (List.length (((rdEl TStatus x0 (Int.toNat x2))).1 :: ([] : List (El THost))))) ≤ (lim 80))) (
       hosts.l1  m x0 x1 (IntKind.i64.wrap (x2 + (1 : Int))) (x3 ++ (((rdEl TStatus x0 (Int.toNat x2))).1 :: ([] : List (El THost))))))))) (
   some ((.c (.sl THost x3)), [])) := by kernel_rfl
theorem hosts.run_eq  (m : Nat) (x0 : (List (El TStatus))) : run (hosts.cfg ) Try.f20.ntmps Try.f20.results.toList m [.code (bodyOf Try.f20)] (enter (ivA hosts.ps (x0, ()))) = hosts.go  m x0 := by kernel_rfl
theorem hosts.ret  (hs : SpecsOK Try.prog (hosts.specs ))  (x0 : (List (El TStatus))) {m : Nat} {r : IV} (h : hosts.go  m x0 = some (r, [])) : VE.Returns Try.prog 20 (ivA hosts.ps (x0, ())) r :=
  returns_of_run (cfg := hosts.cfg ) (cfgOK_of mixed tab_ok hs .nil) rfl Try.func20 (body_some (by kernel_rfl)) (Nat.le_of_ble_eq_true (by kernel_rfl)) ((hosts.run_eq  m x0).trans h)
abbrev hosts.Law : Prop := ∀ (x0 : (List (El TStatus))), hosts.pre (x0, ()) = true → VE.Returns Try.prog 20 (ivA hosts.ps (x0, ())) (hosts.res (x0, ()))
theorem hosts.mkR (H : ∀ (x0 : (List (El TStatus))), hosts.pre (x0, ()) = true → VE.Returns Try.prog 20 (ivA hosts.ps (x0, ())) (hosts.res (x0, ()))) : SpecOK Try.prog 20 hosts.sp :=
  specOf_ret Try.func20 (by kernel_rfl) (by kernel_rfl) fun (x : (List (El TStatus)) × Unit) hx => H (x.1) hx
theorem hosts.mk  (hs : SpecsOK Try.prog (hosts.specs ))  (H : ∀ (x0 : (List (El TStatus))), hosts.pre (x0, ()) = true → ∃ m, hosts.go  m x0 = some (hosts.res (x0, ()), [])) : SpecOK Try.prog 20 hosts.sp :=
  hosts.mkR fun x0 hx => (H x0 hx).elim fun _ hm => hosts.ret  hs  x0 hm

/-! ### triage/state.same -/
abbrev sameO.ps : List AK := [.d true TStatus, .d true TStatus]
def sameO.pre : ElA sameO.ps → Bool := fun (x : (El TStatus) × (El TStatus) × Unit) => fits TStatus (x.1) && (fits TStatus (x.2.1) && (true))
def sameO.res : ElA sameO.ps → IV := fun (x : (El TStatus) × (El TStatus) × Unit) => (fun a b => vb (sameOB a b)) x.1 x.2.1
def sameO.sp : ISpec := spOf sameO.ps sameO.pre sameO.res
abbrev sameO.OK : Prop := SpecOK Try.prog 49 sameO.sp
noncomputable def sameO.body : Code := bodyOf Try.f49
noncomputable def sameO.rs : List ResultVar := Try.f49.results.toList
def sameO.live : List (Nat × Live) := []
noncomputable def sameO.specs  : List (Nat × (List Bool × ISpec)) := [(54, ([], same.sp))]
noncomputable def sameO.ospecs  : List (Nat × OS) := []
noncomputable def sameO.cfg  : Cfg := ⟨lkp tab, lkp (sameO.specs ), lkp sameO.live, ⟨lkp (sameO.ospecs ), [], none, false, []⟩⟩
noncomputable def sameO.go  (m : Nat) (x0 : (El TStatus)) (x1 : (El TStatus)) : R := run (sameO.cfg ) 65 sameO.rs m [.code sameO.body] (enter (ivA sameO.ps (x0, x1, ())))
theorem sameO.start  (m : Nat) (x0 : (El TStatus)) (x1 : (El TStatus)) : sameO.go  (m + 1) x0 x1 =
  test (same.pre (x0.1, (x1.1, Unit.unit))) (
   cond (Bool.not (sameB x0.1 x1.1)) (
    some ((.c (.v (.bool false))), [])) (
    cond ((x0.2.1.1 == x1.2.1.1) && ((x0.2.1.2.1 == x1.2.1.2.1) && ((x0.2.1.2.2.1 == x1.2.1.2.2.1) && ((x0.2.1.2.2.2 == x1.2.1.2.2.2) && true)))) (
     cond (x0.2.2.1 == x1.2.2.1) (
      cond ((x0.2.2.2.1.1 == x1.2.2.2.1.1) && ((x0.2.2.2.1.2 == x1.2.2.2.1.2) && true)) (
       cond ((x0.2.2.2.2.1.1 == x1.2.2.2.2.1.1) && ((x0.2.2.2.2.1.2.1 == x1.2.2.2.2.1.2.1) && ((x0.2.2.2.2.1.2.2.1 == x1.2.2.2.2.1.2.2.1) && ((x0.2.2.2.2.1.2.2.2 == x1.2.2.2.2.1.2.2.2) && true)))) (
        cond (x0.2.2.2.2.2.1 == x1.2.2.2.2.2.1) (
         cond (x0.2.2.2.2.2.2.1 == x1.2.2.2.2.2.2.1) (
          cond (x0.2.2.2.2.2.2.2.1 == x1.2.2.2.2.2.2.2.1) (
           some ((.c (.v (.bool (x0.2.2.2.2.2.2.2.2 == x1.2.2.2.2.2.2.2.2)))), [])) (
           some ((.c (.v (.bool false))), []))) (
          some ((.c (.v (.bool false))), []))) (
         some ((.c (.v (.bool false))), []))) (
        some ((.c (.v (.bool false))), []))) (
       some ((.c (.v (.bool false))), []))) (
      some ((.c (.v (.bool false))), []))) (
     some ((.c (.v (.bool false))), [])))) := by kernel_rfl
theorem sameO.run_eq  (m : Nat) (x0 : (El TStatus)) (x1 : (El TStatus)) : run (sameO.cfg ) Try.f49.ntmps Try.f49.results.toList m [.code (bodyOf Try.f49)] (enter (ivA sameO.ps (x0, x1, ()))) = sameO.go  m x0 x1 := by kernel_rfl
theorem sameO.ret  (hs : SpecsOK Try.prog (sameO.specs ))  (x0 : (El TStatus)) (x1 : (El TStatus)) {m : Nat} {r : IV} (h : sameO.go  m x0 x1 = some (r, [])) : VE.Returns Try.prog 49 (ivA sameO.ps (x0, x1, ())) r :=
  returns_of_run (cfg := sameO.cfg ) (cfgOK_of mixed tab_ok hs .nil) rfl Try.func49 (body_some (by kernel_rfl)) (Nat.le_of_ble_eq_true (by kernel_rfl)) ((sameO.run_eq  m x0 x1).trans h)
abbrev sameO.Law : Prop := ∀ (x0 : (El TStatus)) (x1 : (El TStatus)), sameO.pre (x0, x1, ()) = true → VE.Returns Try.prog 49 (ivA sameO.ps (x0, x1, ())) (sameO.res (x0, x1, ()))
theorem sameO.mkR (H : ∀ (x0 : (El TStatus)) (x1 : (El TStatus)), sameO.pre (x0, x1, ()) = true → VE.Returns Try.prog 49 (ivA sameO.ps (x0, x1, ())) (sameO.res (x0, x1, ()))) : SpecOK Try.prog 49 sameO.sp :=
  specOf_ret Try.func49 (by kernel_rfl) (by kernel_rfl) fun (x : (El TStatus) × (El TStatus) × Unit) hx => H (x.1) (x.2.1) hx
theorem sameO.mk  (hs : SpecsOK Try.prog (sameO.specs ))  (H : ∀ (x0 : (El TStatus)) (x1 : (El TStatus)), sameO.pre (x0, x1, ()) = true → ∃ m, sameO.go  m x0 x1 = some (sameO.res (x0, x1, ()), [])) : SpecOK Try.prog 49 sameO.sp :=
  sameO.mkR fun x0 x1 hx => (H x0 x1 hx).elim fun _ hm => sameO.ret  hs  x0 x1 hm

/-! ### triage/triageref10.SameOne -/
abbrev sameOR.ps : List AK := [.d true TStatus, .d true TStatus]
def sameOR.pre : ElA sameOR.ps → Bool := fun (x : (El TStatus) × (El TStatus) × Unit) => fits TStatus (x.1) && (fits TStatus (x.2.1) && (true))
def sameOR.res : ElA sameOR.ps → IV := fun (x : (El TStatus) × (El TStatus) × Unit) => (fun a b => vb (sameOB a b)) x.1 x.2.1
def sameOR.sp : ISpec := spOf sameOR.ps sameOR.pre sameOR.res
abbrev sameOR.OK : Prop := SpecOK Try.prog 23 sameOR.sp
noncomputable def sameOR.body : Code := bodyOf Try.f23
noncomputable def sameOR.rs : List ResultVar := Try.f23.results.toList
def sameOR.live : List (Nat × Live) := []
noncomputable def sameOR.specs  : List (Nat × (List Bool × ISpec)) := [(45, ([], sameR.sp))]
noncomputable def sameOR.ospecs  : List (Nat × OS) := []
noncomputable def sameOR.cfg  : Cfg := ⟨lkp tab, lkp (sameOR.specs ), lkp sameOR.live, ⟨lkp (sameOR.ospecs ), [], none, false, []⟩⟩
noncomputable def sameOR.go  (m : Nat) (x0 : (El TStatus)) (x1 : (El TStatus)) : R := run (sameOR.cfg ) 66 sameOR.rs m [.code sameOR.body] (enter (ivA sameOR.ps (x0, x1, ())))
theorem sameOR.start  (m : Nat) (x0 : (El TStatus)) (x1 : (El TStatus)) : sameOR.go  (m + 1) x0 x1 =
  test (sameR.pre (x0.1, (x1.1, Unit.unit))) (
   cond (sameB x0.1 x1.1) (
    cond ((x0.2.1.1 == x1.2.1.1) && ((x0.2.1.2.1 == x1.2.1.2.1) && ((x0.2.1.2.2.1 == x1.2.1.2.2.1) && ((x0.2.1.2.2.2 == x1.2.1.2.2.2) && true)))) (
     cond (x0.2.2.1 == x1.2.2.1) (
      cond ((x0.2.2.2.1.1 == x1.2.2.2.1.1) && ((x0.2.2.2.1.2 == x1.2.2.2.1.2) && true)) (
       cond ((x0.2.2.2.2.1.1 == x1.2.2.2.2.1.1) && ((x0.2.2.2.2.1.2.1 == x1.2.2.2.2.1.2.1) && ((x0.2.2.2.2.1.2.2.1 == x1.2.2.2.2.1.2.2.1) && ((x0.2.2.2.2.1.2.2.2 == x1.2.2.2.2.1.2.2.2) && true)))) (
        cond (x0.2.2.2.2.2.1 == x1.2.2.2.2.2.1) (
         cond (x0.2.2.2.2.2.2.1 == x1.2.2.2.2.2.2.1) (
          cond (x0.2.2.2.2.2.2.2.1 == x1.2.2.2.2.2.2.2.1) (
           some ((.c (.v (.bool (x0.2.2.2.2.2.2.2.2 == x1.2.2.2.2.2.2.2.2)))), [])) (
           some ((.c (.v (.bool false))), []))) (
          some ((.c (.v (.bool false))), []))) (
         some ((.c (.v (.bool false))), []))) (
        some ((.c (.v (.bool false))), []))) (
       some ((.c (.v (.bool false))), []))) (
      some ((.c (.v (.bool false))), []))) (
     some ((.c (.v (.bool false))), []))) (
    some ((.c (.v (.bool false))), []))) := by kernel_rfl
theorem sameOR.run_eq  (m : Nat) (x0 : (El TStatus)) (x1 : (El TStatus)) : run (sameOR.cfg ) Try.f23.ntmps Try.f23.results.toList m [.code (bodyOf Try.f23)] (enter (ivA sameOR.ps (x0, x1, ()))) = sameOR.go  m x0 x1 := by kernel_rfl
theorem sameOR.ret  (hs : SpecsOK Try.prog (sameOR.specs ))  (x0 : (El TStatus)) (x1 : (El TStatus)) {m : Nat} {r : IV} (h : sameOR.go  m x0 x1 = some (r, [])) : VE.Returns Try.prog 23 (ivA sameOR.ps (x0, x1, ())) r :=
  returns_of_run (cfg := sameOR.cfg ) (cfgOK_of mixed tab_ok hs .nil) rfl Try.func23 (body_some (by kernel_rfl)) (Nat.le_of_ble_eq_true (by kernel_rfl)) ((sameOR.run_eq  m x0 x1).trans h)
abbrev sameOR.Law : Prop := ∀ (x0 : (El TStatus)) (x1 : (El TStatus)), sameOR.pre (x0, x1, ()) = true → VE.Returns Try.prog 23 (ivA sameOR.ps (x0, x1, ())) (sameOR.res (x0, x1, ()))
theorem sameOR.mkR (H : ∀ (x0 : (El TStatus)) (x1 : (El TStatus)), sameOR.pre (x0, x1, ()) = true → VE.Returns Try.prog 23 (ivA sameOR.ps (x0, x1, ())) (sameOR.res (x0, x1, ()))) : SpecOK Try.prog 23 sameOR.sp :=
  specOf_ret Try.func23 (by kernel_rfl) (by kernel_rfl) fun (x : (El TStatus) × (El TStatus) × Unit) hx => H (x.1) (x.2.1) hx
theorem sameOR.mk  (hs : SpecsOK Try.prog (sameOR.specs ))  (H : ∀ (x0 : (El TStatus)) (x1 : (El TStatus)), sameOR.pre (x0, x1, ()) = true → ∃ m, sameOR.go  m x0 x1 = some (sameOR.res (x0, x1, ()), [])) : SpecOK Try.prog 23 sameOR.sp :=
  sameOR.mkR fun x0 x1 hx => (H x0 x1 hx).elim fun _ hm => sameOR.ret  hs  x0 x1 hm

/-! ### slices.EqualFunc(()triage/api.Status,()triage/api.Status,triage/api.Status,triage/api.Status) -/
abbrev eqF.ps : List AK := [.d false (.sl TStatus), .d false (.sl TStatus), .f 49 []]
def eqF.pre : ElA eqF.ps → Bool := fun (x : (List (El TStatus)) × (List (El TStatus)) × Unit × Unit) => fits (.sl TStatus) (x.1) && (fits (.sl TStatus) (x.2.1) && (true))
def eqF.res : ElA eqF.ps → IV := fun (x : (List (El TStatus)) × (List (El TStatus)) × Unit × Unit) => (fun l m _ => vb (sameSB l m)) x.1 x.2.1 x.2.2.1
def eqF.sp : ISpec := spOf eqF.ps eqF.pre eqF.res
abbrev eqF.OK : Prop := SpecOK Try.prog 48 eqF.sp
noncomputable def eqF.body : Code := bodyOf Try.f48
noncomputable def eqF.rs : List ResultVar := Try.f48.results.toList
def eqF.live : List (Nat × Live) := [(4, ⟨[(1, .sl TStatus), (2, .plain), (15, .sl TStatus), (16, .plain), (17, .plain)], []⟩)]
noncomputable def eqF.specs  : List (Nat × (List Bool × ISpec)) := [(49, ([], sameO.sp))]
noncomputable def eqF.ospecs  : List (Nat × OS) := []
noncomputable def eqF.cfg  : Cfg := ⟨lkp tab, lkp (eqF.specs ), lkp eqF.live, ⟨lkp (eqF.ospecs ), [], none, false, []⟩⟩
noncomputable def eqF.l1  (m : Nat) (x0 : List (El TStatus)) (x1 : List (El TStatus)) (x2 : Int) (x3 : Int) : R := run (eqF.cfg ) 32 eqF.rs m ((todoR 4 eqF.body []).getD []) ⟨ofList (.c .junk) [(1, (.c (.sl TStatus x0))), (2, (.c (.fn 49 []))), (15, (.c (.sl TStatus x1))), (16, (.c (.v (.int .i64 x2)))), (17, (.c (.v (.int .i64 x3))))], ofList none [], ofList false []⟩
noncomputable def eqF.go  (m : Nat) (x0 : (List (El TStatus))) (x1 : (List (El TStatus))) (x2 : Unit) : R := run (eqF.cfg ) 32 eqF.rs m [.code eqF.body] (enter (ivA eqF.ps (x0, x1, x2, ())))
theorem eqF.start  (m : Nat) (x0 : (List (El TStatus))) (x1 : (List (El TStatus))) (x2 : Unit) : eqF.go  (m + 1) x0 x1 x2 =
  cond (bne ((List.length x0) : Int) ((List.length x1) : Int)) (
   some ((.c (.v (.bool false))), [])) (
   eqF.l1  m x1 x0 ((List.length x0) : Int) (0 : Int)) := by kernel_rfl
theorem eqF.s1  (m : Nat) (x0 : List (El TStatus)) (x1 : List (El TStatus)) (x2 : Int) (x3 : Int) : eqF.l1  (m + 1) x0 x1 x2 x3 =
  cond (decide (x3 < x2)) (
   test (decide ((0 : Int) ≤ x3)) (
    test (decide (x3 < ((List.length x1) : Int))) (
     test (decide ((0 : Int) ≤ x3)) (
      test (decide (x3 < ((List.length x0) : Int))) (
       test (sameO.pre (((rdEl TStatus x1 (Int.toNat x3))), (((rdEl TStatus x0 (Int.toNat x3))), Unit.unit))) (
        cond (Bool.not (sameOB ((rdEl TStatus x1 (Int.toNat x3))) ((rdEl TStatus x0 (Int.toNat x3))))) (
         some ((.c (.v (.bool false))), [])) (
         eqF.l1  m x0 x1 x2 (IntKind.i64.wrap (x3 + (1 : Int)))))))))) (
   some ((.c (.v (.bool true))), [])) := by kernel_rfl
theorem eqF.run_eq  (m : Nat) (x0 : (List (El TStatus))) (x1 : (List (El TStatus))) (x2 : Unit) : run (eqF.cfg ) Try.f48.ntmps Try.f48.results.toList m [.code (bodyOf Try.f48)] (enter (ivA eqF.ps (x0, x1, x2, ()))) = eqF.go  m x0 x1 x2 := by kernel_rfl
theorem eqF.ret  (hs : SpecsOK Try.prog (eqF.specs ))  (x0 : (List (El TStatus))) (x1 : (List (El TStatus))) (x2 : Unit) {m : Nat} {r : IV} (h : eqF.go  m x0 x1 x2 = some (r, [])) : VE.Returns Try.prog 48 (ivA eqF.ps (x0, x1, x2, ())) r :=
  returns_of_run (cfg := eqF.cfg ) (cfgOK_of mixed tab_ok hs .nil) rfl Try.func48 (body_some (by kernel_rfl)) (Nat.le_of_ble_eq_true (by kernel_rfl)) ((eqF.run_eq  m x0 x1 x2).trans h)
abbrev eqF.Law : Prop := ∀ (x0 : (List (El TStatus))) (x1 : (List (El TStatus))) (x2 : Unit), eqF.pre (x0, x1, x2, ()) = true → VE.Returns Try.prog 48 (ivA eqF.ps (x0, x1, x2, ())) (eqF.res (x0, x1, x2, ()))
theorem eqF.mkR (H : ∀ (x0 : (List (El TStatus))) (x1 : (List (El TStatus))) (x2 : Unit), eqF.pre (x0, x1, x2, ()) = true → VE.Returns Try.prog 48 (ivA eqF.ps (x0, x1, x2, ())) (eqF.res (x0, x1, x2, ()))) : SpecOK Try.prog 48 eqF.sp :=
  specOf_ret Try.func48 (by kernel_rfl) (by kernel_rfl) fun (x : (List (El TStatus)) × (List (El TStatus)) × Unit × Unit) hx => H (x.1) (x.2.1) (x.2.2.1) hx
theorem eqF.mk  (hs : SpecsOK Try.prog (eqF.specs ))  (H : ∀ (x0 : (List (El TStatus))) (x1 : (List (El TStatus))) (x2 : Unit), eqF.pre (x0, x1, x2, ()) = true → ∃ m, eqF.go  m x0 x1 x2 = some (eqF.res (x0, x1, x2, ()), [])) : SpecOK Try.prog 48 eqF.sp :=
  eqF.mkR fun x0 x1 x2 hx => (H x0 x1 x2 hx).elim fun _ hm => eqF.ret  hs  x0 x1 x2 hm

/-! ### triage/state.Same -/
abbrev sameS.ps : List AK := [.d false (.sl TStatus), .d false (.sl TStatus)]
def sameS.pre : ElA sameS.ps → Bool := fun (x : (List (El TStatus)) × (List (El TStatus)) × Unit) => fits (.sl TStatus) (x.1) && (fits (.sl TStatus) (x.2.1) && (true))
def sameS.res : ElA sameS.ps → IV := fun (x : (List (El TStatus)) × (List (El TStatus)) × Unit) => (fun l m => vb (sameSB l m)) x.1 x.2.1
def sameS.sp : ISpec := spOf sameS.ps sameS.pre sameS.res
abbrev sameS.OK : Prop := SpecOK Try.prog 29 sameS.sp
noncomputable def sameS.body : Code := bodyOf Try.f29
noncomputable def sameS.rs : List ResultVar := Try.f29.results.toList
def sameS.live : List (Nat × Live) := []
noncomputable def sameS.specs  : List (Nat × (List Bool × ISpec)) := [(48, ([], eqF.sp))]
noncomputable def sameS.ospecs  : List (Nat × OS) := []
noncomputable def sameS.cfg  : Cfg := ⟨lkp tab, lkp (sameS.specs ), lkp sameS.live, ⟨lkp (sameS.ospecs ), [], none, false, []⟩⟩
noncomputable def sameS.go  (m : Nat) (x0 : (List (El TStatus))) (x1 : (List (El TStatus))) : R := run (sameS.cfg ) 8 sameS.rs m [.code sameS.body] (enter (ivA sameS.ps (x0, x1, ())))
theorem sameS.start  (m : Nat) (x0 : (List (El TStatus))) (x1 : (List (El TStatus))) : sameS.go  (m + 1) x0 x1 =
  test (eqF.pre (x0, (x1, (Unit.unit, Unit.unit)))) (
   some ((.c (.v (.bool (sameSB x0 x1)))), [])) := by kernel_rfl
theorem sameS.run_eq  (m : Nat) (x0 : (List (El TStatus))) (x1 : (List (El TStatus))) : run (sameS.cfg ) Try.f29.ntmps Try.f29.results.toList m [.code (bodyOf Try.f29)] (enter (ivA sameS.ps (x0, x1, ()))) = sameS.go  m x0 x1 := by kernel_rfl
theorem sameS.ret  (hs : SpecsOK Try.prog (sameS.specs ))  (x0 : (List (El TStatus))) (x1 : (List (El TStatus))) {m : Nat} {r : IV} (h : sameS.go  m x0 x1 = some (r, [])) : VE.Returns Try.prog 29 (ivA sameS.ps (x0, x1, ())) r :=
  returns_of_run (cfg := sameS.cfg ) (cfgOK_of mixed tab_ok hs .nil) rfl Try.func29 (body_some (by kernel_rfl)) (Nat.le_of_ble_eq_true (by kernel_rfl)) ((sameS.run_eq  m x0 x1).trans h)
abbrev sameS.Law : Prop := ∀ (x0 : (List (El TStatus))) (x1 : (List (El TStatus))), sameS.pre (x0, x1, ()) = true → VE.Returns Try.prog 29 (ivA sameS.ps (x0, x1, ())) (sameS.res (x0, x1, ()))
theorem sameS.mkR (H : ∀ (x0 : (List (El TStatus))) (x1 : (List (El TStatus))), sameS.pre (x0, x1, ()) = true → VE.Returns Try.prog 29 (ivA sameS.ps (x0, x1, ())) (sameS.res (x0, x1, ()))) : SpecOK Try.prog 29 sameS.sp :=
  specOf_ret Try.func29 (by kernel_rfl) (by kernel_rfl) fun (x : (List (El TStatus)) × (List (El TStatus)) × Unit) hx => H (x.1) (x.2.1) hx
theorem sameS.mk  (hs : SpecsOK Try.prog (sameS.specs ))  (H : ∀ (x0 : (List (El TStatus))) (x1 : (List (El TStatus))), sameS.pre (x0, x1, ()) = true → ∃ m, sameS.go  m x0 x1 = some (sameS.res (x0, x1, ()), [])) : SpecOK Try.prog 29 sameS.sp :=
  sameS.mkR fun x0 x1 hx => (H x0 x1 hx).elim fun _ hm => sameS.ret  hs  x0 x1 hm

/-! ### triage/triageref10.Same -/
abbrev sameSR.ps : List AK := [.d false (.sl TStatus), .d false (.sl TStatus)]
def sameSR.pre : ElA sameSR.ps → Bool := fun (x : (List (El TStatus)) × (List (El TStatus)) × Unit) => fits (.sl TStatus) (x.1) && (fits (.sl TStatus) (x.2.1) && (true))
def sameSR.res : ElA sameSR.ps → IV := fun (x : (List (El TStatus)) × (List (El TStatus)) × Unit) => (fun l m => vb (sameSB l m)) x.1 x.2.1
def sameSR.sp : ISpec := spOf sameSR.ps sameSR.pre sameSR.res
abbrev sameSR.OK : Prop := SpecOK Try.prog 13 sameSR.sp
noncomputable def sameSR.body : Code := bodyOf Try.f13
noncomputable def sameSR.rs : List ResultVar := Try.f13.results.toList
def sameSR.live : List (Nat × Live) := [(4, ⟨[(0, .sl TStatus), (1, .sl TStatus), (12, .plain), (13, .plain)], []⟩)]
noncomputable def sameSR.specs  : List (Nat × (List Bool × ISpec)) := [(23, ([], sameOR.sp))]
noncomputable def sameSR.ospecs  : List (Nat × OS) := []
noncomputable def sameSR.cfg  : Cfg := ⟨lkp tab, lkp (sameSR.specs ), lkp sameSR.live, ⟨lkp (sameSR.ospecs ), [], none, false, []⟩⟩
noncomputable def sameSR.l1  (m : Nat) (x0 : List (El TStatus)) (x1 : List (El TStatus)) (x2 : Int) (x3 : Int) : R := run (sameSR.cfg ) 27 sameSR.rs m ((todoR 4 sameSR.body []).getD []) ⟨ofList (.c .junk) [(0, (.c (.sl TStatus x0))), (1, (.c (.sl TStatus x1))), (12, (.c (.v (.int .i64 x2)))), (13, (.c (.v (.int .i64 x3))))], ofList none [], ofList false []⟩
noncomputable def sameSR.go  (m : Nat) (x0 : (List (El TStatus))) (x1 : (List (El TStatus))) : R := run (sameSR.cfg ) 27 sameSR.rs m [.code sameSR.body] (enter (ivA sameSR.ps (x0, x1, ())))
theorem sameSR.start  (m : Nat) (x0 : (List (El TStatus))) (x1 : (List (El TStatus))) : sameSR.go  (m + 1) x0 x1 =
  cond (bne ((List.length x0) : Int) ((List.length x1) : Int)) (
   some ((.c (.v (.bool false))), [])) (
   sameSR.l1  m x0 x1 ((List.length x0) : Int) (0 : Int)) := by kernel_rfl
theorem sameSR.s1  (m : Nat) (x0 : List (El TStatus)) (x1 : List (El TStatus)) (x2 : Int) (x3 : Int) : sameSR.l1  (m + 1) x0 x1 x2 x3 =
  cond (decide (x3 < x2)) (
   test (decide ((0 : Int) ≤ x3)) (
    test (decide (x3 < ((List.length x0) : Int))) (
     test (decide ((0 : Int) ≤ x3)) (
      test (decide (x3 < ((List.length x1) : Int))) (
       test (sameOR.pre (((rdEl TStatus x0 (Int.toNat x3))), (((rdEl TStatus x1 (Int.toNat x3))), Unit.unit))) (
        cond (Bool.not (sameOB ((rdEl TStatus x0 (Int.toNat x3))) ((rdEl TStatus x1 (Int.toNat x3))))) (
         some ((.c (.v (.bool false))), [])) (
         sameSR.l1  m x0 x1 x2 (IntKind.i64.wrap (x3 + (1 : Int)))))))))) (
   some ((.c (.v (.bool true))), [])) := by kernel_rfl
theorem sameSR.run_eq  (m : Nat) (x0 : (List (El TStatus))) (x1 : (List (El TStatus))) : run (sameSR.cfg ) Try.f13.ntmps Try.f13.results.toList m [.code (bodyOf Try.f13)] (enter (ivA sameSR.ps (x0, x1, ()))) = sameSR.go  m x0 x1 := by kernel_rfl
theorem sameSR.ret  (hs : SpecsOK Try.prog (sameSR.specs ))  (x0 : (List (El TStatus))) (x1 : (List (El TStatus))) {m : Nat} {r : IV} (h : sameSR.go  m x0 x1 = some (r, [])) : VE.Returns Try.prog 13 (ivA sameSR.ps (x0, x1, ())) r :=
  returns_of_run (cfg := sameSR.cfg ) (cfgOK_of mixed tab_ok hs .nil) rfl Try.func13 (body_some (by kernel_rfl)) (Nat.le_of_ble_eq_true (by kernel_rfl)) ((sameSR.run_eq  m x0 x1).trans h)
abbrev sameSR.Law : Prop := ∀ (x0 : (List (El TStatus))) (x1 : (List (El TStatus))), sameSR.pre (x0, x1, ()) = true → VE.Returns Try.prog 13 (ivA sameSR.ps (x0, x1, ())) (sameSR.res (x0, x1, ()))
theorem sameSR.mkR (H : ∀ (x0 : (List (El TStatus))) (x1 : (List (El TStatus))), sameSR.pre (x0, x1, ()) = true → VE.Returns Try.prog 13 (ivA sameSR.ps (x0, x1, ())) (sameSR.res (x0, x1, ()))) : SpecOK Try.prog 13 sameSR.sp :=
  specOf_ret Try.func13 (by kernel_rfl) (by kernel_rfl) fun (x : (List (El TStatus)) × (List (El TStatus)) × Unit) hx => H (x.1) (x.2.1) hx
theorem sameSR.mk  (hs : SpecsOK Try.prog (sameSR.specs ))  (H : ∀ (x0 : (List (El TStatus))) (x1 : (List (El TStatus))), sameSR.pre (x0, x1, ()) = true → ∃ m, sameSR.go  m x0 x1 = some (sameSR.res (x0, x1, ()), [])) : SpecOK Try.prog 13 sameSR.sp :=
  sameSR.mkR fun x0 x1 hx => (H x0 x1 hx).elim fun _ hm => sameSR.ret  hs  x0 x1 hm

/-! ### triage/triageref1.SameHosts -/
abbrev sameHR.ps : List AK := [.d false (.sl THost), .d false (.sl THost)]
def sameHR.pre : ElA sameHR.ps → Bool := fun (x : (List (El THost)) × (List (El THost)) × Unit) => fits (.sl THost) (x.1) && (fits (.sl THost) (x.2.1) && (true))
def sameHR.res : ElA sameHR.ps → IV := fun (x : (List (El THost)) × (List (El THost)) × Unit) => (fun l m => vb (sameHB l m)) x.1 x.2.1
def sameHR.sp : ISpec := spOf sameHR.ps sameHR.pre sameHR.res
abbrev sameHR.OK : Prop := SpecOK Try.prog 30 sameHR.sp
noncomputable def sameHR.body : Code := bodyOf Try.f30
noncomputable def sameHR.rs : List ResultVar := Try.f30.results.toList
def sameHR.live : List (Nat × Live) := [(4, ⟨[(0, .sl THost), (1, .sl THost), (12, .plain), (13, .plain)], []⟩)]
noncomputable def sameHR.specs  : List (Nat × (List Bool × ISpec)) := [(45, ([], sameR.sp))]
noncomputable def sameHR.ospecs  : List (Nat × OS) := []
noncomputable def sameHR.cfg  : Cfg := ⟨lkp tab, lkp (sameHR.specs ), lkp sameHR.live, ⟨lkp (sameHR.ospecs ), [], none, false, []⟩⟩
noncomputable def sameHR.l1  (m : Nat) (x0 : List (El THost)) (x1 : List (El THost)) (x2 : Int) (x3 : Int) : R := run (sameHR.cfg ) 27 sameHR.rs m ((todoR 4 sameHR.body []).getD []) ⟨ofList (.c .junk) [(0, (.c (.sl THost x0))), (1, (.c (.sl THost x1))), (12, (.c (.v (.int .i64 x2)))), (13, (.c (.v (.int .i64 x3))))], ofList none [], ofList false []⟩
noncomputable def sameHR.go  (m : Nat) (x0 : (List (El THost))) (x1 : (List (El THost))) : R := run (sameHR.cfg ) 27 sameHR.rs m [.code sameHR.body] (enter (ivA sameHR.ps (x0, x1, ())))
theorem sameHR.start  (m : Nat) (x0 : (List (El THost))) (x1 : (List (El THost))) : sameHR.go  (m + 1) x0 x1 =
  cond (bne ((List.length x0) : Int) ((List.length x1) : Int)) (
   some ((.c (.v (.bool false))), [])) (
   sameHR.l1  m x0 x1 ((List.length x0) : Int) (0 : Int)) := by kernel_rfl
theorem sameHR.s1  (m : Nat) (x0 : List (El THost)) (x1 : List (El THost)) (x2 : Int) (x3 : Int) : sameHR.l1  (m + 1) x0 x1 x2 x3 =
  cond (decide (x3 < x2)) (
   test (decide ((0 : Int) ≤ x3)) (
    test (decide (x3 < ((List.length x0) : Int))) (
     test (decide ((0 : Int) ≤ x3)) (
      test (decide (x3 < ((List.length x1) : Int))) (
       test (sameR.pre (((rdEl THost x0 (Int.toNat x3))), (((rdEl THost x1 (Int.toNat x3))), Unit.unit))) (
        cond (Bool.not (sameB ((rdEl THost x0 (Int.toNat x3))) ((rdEl THost x1 (Int.toNat x3))))) (
         some ((.c (.v (.bool false))), [])) (
         sameHR.l1  m x0 x1 x2 (IntKind.i64.wrap (x3 + (1 : Int)))))))))) (
   some ((.c (.v (.bool true))), [])) := by kernel_rfl
theorem sameHR.run_eq  (m : Nat) (x0 : (List (El THost))) (x1 : (List (El THost))) : run (sameHR.cfg ) Try.f30.ntmps Try.f30.results.toList m [.code (bodyOf Try.f30)] (enter (ivA sameHR.ps (x0, x1, ()))) = sameHR.go  m x0 x1 := by kernel_rfl
theorem sameHR.ret  (hs : SpecsOK Try.prog (sameHR.specs ))  (x0 : (List (El THost))) (x1 : (List (El THost))) {m : Nat} {r : IV} (h : sameHR.go  m x0 x1 = some (r, [])) : VE.Returns Try.prog 30 (ivA sameHR.ps (x0, x1, ())) r :=
  returns_of_run (cfg := sameHR.cfg ) (cfgOK_of mixed tab_ok hs .nil) rfl Try.func30 (body_some (by kernel_rfl)) (Nat.le_of_ble_eq_true (by kernel_rfl)) ((sameHR.run_eq  m x0 x1).trans h)
abbrev sameHR.Law : Prop := ∀ (x0 : (List (El THost))) (x1 : (List (El THost))), sameHR.pre (x0, x1, ()) = true → VE.Returns Try.prog 30 (ivA sameHR.ps (x0, x1, ())) (sameHR.res (x0, x1, ()))
theorem sameHR.mkR (H : ∀ (x0 : (List (El THost))) (x1 : (List (El THost))), sameHR.pre (x0, x1, ()) = true → VE.Returns Try.prog 30 (ivA sameHR.ps (x0, x1, ())) (sameHR.res (x0, x1, ()))) : SpecOK Try.prog 30 sameHR.sp :=
  specOf_ret Try.func30 (by kernel_rfl) (by kernel_rfl) fun (x : (List (El THost)) × (List (El THost)) × Unit) hx => H (x.1) (x.2.1) hx
theorem sameHR.mk  (hs : SpecsOK Try.prog (sameHR.specs ))  (H : ∀ (x0 : (List (El THost))) (x1 : (List (El THost))), sameHR.pre (x0, x1, ()) = true → ∃ m, sameHR.go  m x0 x1 = some (sameHR.res (x0, x1, ()), [])) : SpecOK Try.prog 30 sameHR.sp :=
  sameHR.mkR fun x0 x1 hx => (H x0 x1 hx).elim fun _ hm => sameHR.ret  hs  x0 x1 hm

/-! ### triage/triagelaw16.Light -/
abbrev lightS16.ps : List AK := [.d false (.sl TStatus)]
def lightS16.pre : ElA lightS16.ps → Bool := fun (x : (List (El TStatus)) × Unit) => fits (.sl TStatus) (x.1) && (true)
def lightS16.res : ElA lightS16.ps → IV := fun (x : (List (El TStatus)) × Unit) => (fun l => vi .i64 (lightL l)) x.1
def lightS16.sp : ISpec := spOf lightS16.ps lightS16.pre lightS16.res
abbrev lightS16.OK : Prop := SpecOK Try.prog 8 lightS16.sp
noncomputable def lightS16.body : Code := bodyOf Try.f8
noncomputable def lightS16.rs : List ResultVar := Try.f8.results.toList
def lightS16.live : List (Nat × Live) := [(2, ⟨[(5, .sl TStatus), (6, .plain), (7, .plain)], []⟩)]
noncomputable def lightS16.specs  : List (Nat × (List Bool × ISpec)) := [(14, ([], light.sp))]
noncomputable def lightS16.ospecs  : List (Nat × OS) := []
noncomputable def lightS16.cfg  : Cfg := ⟨lkp tab, lkp (lightS16.specs ), lkp lightS16.live, ⟨lkp (lightS16.ospecs ), [], none, false, []⟩⟩
noncomputable def lightS16.l1  (m : Nat) (x0 : List (El TStatus)) (x1 : Int) (x2 : Int) : R := run (lightS16.cfg ) 21 lightS16.rs m ((todoR 2 lightS16.body []).getD []) ⟨ofList (.c .junk) [(5, (.c (.sl TStatus x0))), (6, (.c (.v (.int .i64 x1)))), (7, (.c (.v (.int .i64 x2))))], ofList none [], ofList false []⟩
noncomputable def lightS16.go  (m : Nat) (x0 : (List (El TStatus))) : R := run (lightS16.cfg ) 21 lightS16.rs m [.code lightS16.body] (enter (ivA lightS16.ps (x0, ())))
theorem lightS16.start  (m : Nat) (x0 : (List (El TStatus))) : lightS16.go  (m + 1) x0 =
  lightS16.l1  m x0 ((List.length x0) : Int) (0 : Int) := by kernel_rfl
theorem lightS16.s1  (m : Nat) (x0 : List (El TStatus)) (x1 : Int) (x2 : Int) : lightS16.l1  (m + 1) x0 x1 x2 =
  cond (decide (x2 < x1)) (
   test (decide ((0 : Int) ≤ x2)) (
    test (decide (x2 < ((List.length x0) : Int))) (
     cond (decide (x2 > (80 : Int))) (
      some ((.c (.v (.int .i64 (1 : Int)))), [])) (
      test (light.pre (((rdEl TStatus x0 (Int.toNat x2))).1, Unit.unit)) (
       cond (decide ((lightI ((rdEl TStatus x0 (Int.toNat x2))).1) > (0 : Int))) (
        some ((.c (.v (.int .i64 (1 : Int)))), [])) (
        lightS16.l1  m x0 x1 (IntKind.i64.wrap (x2 + (1 : Int))))))))) (
   some ((.c (.v (.int .i64 (0 : Int)))), [])) := by kernel_rfl
theorem lightS16.run_eq  (m : Nat) (x0 : (List (El TStatus))) : run (lightS16.cfg ) Try.f8.ntmps Try.f8.results.toList m [.code (bodyOf Try.f8)] (enter (ivA lightS16.ps (x0, ()))) = lightS16.go  m x0 := by kernel_rfl
theorem lightS16.ret  (hs : SpecsOK Try.prog (lightS16.specs ))  (x0 : (List (El TStatus))) {m : Nat} {r : IV} (h : lightS16.go  m x0 = some (r, [])) : VE.Returns Try.prog 8 (ivA lightS16.ps (x0, ())) r :=
  returns_of_run (cfg := lightS16.cfg ) (cfgOK_of mixed tab_ok hs .nil) rfl Try.func8 (body_some (by kernel_rfl)) (Nat.le_of_ble_eq_true (by kernel_rfl)) ((lightS16.run_eq  m x0).trans h)
abbrev lightS16.Law : Prop := ∀ (x0 : (List (El TStatus))), lightS16.pre (x0, ()) = true → VE.Returns Try.prog 8 (ivA lightS16.ps (x0, ())) (lightS16.res (x0, ()))
theorem lightS16.mkR (H : ∀ (x0 : (List (El TStatus))), lightS16.pre (x0, ()) = true → VE.Returns Try.prog 8 (ivA lightS16.ps (x0, ())) (lightS16.res (x0, ()))) : SpecOK Try.prog 8 lightS16.sp :=
  specOf_ret Try.func8 (by kernel_rfl) (by kernel_rfl) fun (x : (List (El TStatus)) × Unit) hx => H (x.1) hx
theorem lightS16.mk  (hs : SpecsOK Try.prog (lightS16.specs ))  (H : ∀ (x0 : (List (El TStatus))), lightS16.pre (x0, ()) = true → ∃ m, lightS16.go  m x0 = some (lightS16.res (x0, ()), [])) : SpecOK Try.prog 8 lightS16.sp :=
  lightS16.mkR fun x0 hx => (H x0 hx).elim fun _ hm => lightS16.ret  hs  x0 hm

end Go.Proofs.Ytdoilggfajngiaa
