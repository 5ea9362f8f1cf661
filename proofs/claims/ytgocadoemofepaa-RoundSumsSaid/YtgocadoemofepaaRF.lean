/-
  Steps of the bodies, from checkpoint to checkpoint (printed by wip/VE/mk2.py).
-/
import Derived.Test.YtgocadoemofepaaT
import Derived.Test.YtgocadoemofepaaRA
namespace Go.Proofs.Ytgocadoemofepaa
open Go VE

/-! ### triage/round.may$1 -/
abbrev sameId.ps : List AK := [.d true TShare, .p TShare]
def sameId.pre : ElA sameId.ps → Bool := fun (x : (El TShare) × (El TShare) × Unit) => fits TShare (x.1) && (fits TShare (x.2.1) && (true))
def sameId.res : ElA sameId.ps → IV := fun (x : (El TShare) × (El TShare) × Unit) => (fun y x => vb (idIs x.1 y)) x.1 x.2.1
def sameId.sp : ISpec := spOf sameId.ps sameId.pre sameId.res
abbrev sameId.OK : Prop := SpecOK Try.prog 19 sameId.sp
noncomputable def sameId.body : Code := bodyOf Try.f19
noncomputable def sameId.rs : List ResultVar := Try.f19.results.toList
def sameId.live : List (Nat × Live) := []
noncomputable def sameId.specs  : List (Nat × (List Bool × ISpec)) := []
noncomputable def sameId.ospecs  : List (Nat × OS) := []
noncomputable def sameId.cfg  : Cfg := ⟨lkp tab, lkp (sameId.specs ), lkp sameId.live, ⟨lkp (sameId.ospecs ), [], none, false⟩⟩
noncomputable def sameId.go  (m : Nat) (x0 : (El TShare)) (x1 : (El TShare)) : R := run (sameId.cfg ) 9 sameId.rs m [.code sameId.body] (enter (ivA sameId.ps (x0, x1, ())))
theorem sameId.start  (m : Nat) (x0 : (El TShare)) (x1 : (El TShare)) : sameId.go  (m + 1) x0 x1 =
  some ((.c (.v (.bool (x0.1 == x1.1)))), []) := by kernel_rfl
theorem sameId.run_eq  (m : Nat) (x0 : (El TShare)) (x1 : (El TShare)) : run (sameId.cfg ) Try.f19.ntmps Try.f19.results.toList m [.code (bodyOf Try.f19)] (enter (ivA sameId.ps (x0, x1, ()))) = sameId.go  m x0 x1 := by kernel_rfl
theorem sameId.ret  (hs : SpecsOK Try.prog (sameId.specs ))  (x0 : (El TShare)) (x1 : (El TShare)) {m : Nat} {r : IV} (h : sameId.go  m x0 x1 = some (r, [])) : VE.Returns Try.prog 19 (ivA sameId.ps (x0, x1, ())) r :=
  returns_of_run (cfg := sameId.cfg ) (cfgOK_of mixed tab_ok hs .nil) rfl Try.func19 (body_some (by kernel_rfl)) (Nat.le_of_ble_eq_true (by kernel_rfl)) ((sameId.run_eq  m x0 x1).trans h)
abbrev sameId.Law : Prop := ∀ (x0 : (El TShare)) (x1 : (El TShare)), sameId.pre (x0, x1, ()) = true → VE.Returns Try.prog 19 (ivA sameId.ps (x0, x1, ())) (sameId.res (x0, x1, ()))
theorem sameId.mkR (H : ∀ (x0 : (El TShare)) (x1 : (El TShare)), sameId.pre (x0, x1, ()) = true → VE.Returns Try.prog 19 (ivA sameId.ps (x0, x1, ())) (sameId.res (x0, x1, ()))) : SpecOK Try.prog 19 sameId.sp :=
  specOf_ret Try.func19 (by kernel_rfl) (by kernel_rfl) fun (x : (El TShare) × (El TShare) × Unit) hx => H (x.1) (x.2.1) hx
theorem sameId.mk  (hs : SpecsOK Try.prog (sameId.specs ))  (H : ∀ (x0 : (El TShare)) (x1 : (El TShare)), sameId.pre (x0, x1, ()) = true → ∃ m, sameId.go  m x0 x1 = some (sameId.res (x0, x1, ()), [])) : SpecOK Try.prog 19 sameId.sp :=
  sameId.mkR fun x0 x1 hx => (H x0 x1 hx).elim fun _ hm => sameId.ret  hs  x0 x1 hm

/-! ### slices.IndexFunc(()triage/api.Share,triage/api.Share) -/
abbrev ixId.ps : List AK := [.d false (.sl TShare), .f 19 [(true, TShare)]]
def ixId.pre : ElA ixId.ps → Bool := fun (x : (List (El TShare)) × ((El TShare) × Unit) × Unit) => fits (.sl TShare) (x.1) && (fits TShare (x.2.1.1) && (true))
def ixId.res : ElA ixId.ps → IV := fun (x : (List (El TShare)) × ((El TShare) × Unit) × Unit) => (fun l x => vi .i64 (ixOf (idIs x.1.1) l)) x.1 x.2.1
def ixId.sp : ISpec := spOf ixId.ps ixId.pre ixId.res
abbrev ixId.OK : Prop := SpecOK Try.prog 20 ixId.sp
noncomputable def ixId.body : Code := bodyOf Try.f20
noncomputable def ixId.rs : List ResultVar := Try.f20.results.toList
def ixId.live : List (Nat × Live) := [(2, ⟨[(0, .sl TShare), (1, .plain), (7, .plain), (8, .plain)], []⟩)]
noncomputable def ixId.specs  : List (Nat × (List Bool × ISpec)) := [(19, ([], sameId.sp))]
noncomputable def ixId.ospecs  : List (Nat × OS) := []
noncomputable def ixId.cfg  : Cfg := ⟨lkp tab, lkp (ixId.specs ), lkp ixId.live, ⟨lkp (ixId.ospecs ), [], none, false⟩⟩
noncomputable def ixId.l1  (m : Nat) (x0 : List (El TShare)) (x1 : Int) (x2 : Int) (x3 : Int) (x4 : Int) : R := run (ixId.cfg ) 19 ixId.rs m ((todoR 2 ixId.body []).getD []) ⟨ofList (.c .junk) [(0, (.c (.sl TShare x0))), (1, (.c (.fn 19 [(.snap [(.v (.int .i64 x1)), (.v (.int .i64 x2))] 0)]))), (7, (.c (.v (.int .i64 x3)))), (8, (.c (.v (.int .i64 x4))))], ofList none [], ofList false []⟩
noncomputable def ixId.go  (m : Nat) (x0 : (List (El TShare))) (x1 : ((El TShare) × Unit)) : R := run (ixId.cfg ) 19 ixId.rs m [.code ixId.body] (enter (ivA ixId.ps (x0, x1, ())))
theorem ixId.start  (m : Nat) (x0 : (List (El TShare))) (x1 : ((El TShare) × Unit)) : ixId.go  (m + 1) x0 x1 =
  ixId.l1  m x0 x1.1.1 x1.1.2 ((List.length x0) : Int) (0 : Int) := by kernel_rfl
theorem ixId.s1  (m : Nat) (x0 : List (El TShare)) (x1 : Int) (x2 : Int) (x3 : Int) (x4 : Int) : ixId.l1  (m + 1) x0 x1 x2 x3 x4 =
  cond (decide (x4 < x3)) (
   test (decide ((0 : Int) ≤ x4)) (
    test (decide (x4 < ((List.length x0) : Int))) (
     cond (idIs x1 ((rdEl TShare x0 (Int.toNat x4)))) (
      some ((.c (.v (.int .i64 x4))), [])) (
      ixId.l1  m x0 x1 x2 x3 (IntKind.i64.wrap (x4 + (1 : Int))))))) (
   some ((.c (.v (.int .i64 (-(1 : Int))))), [])) := by kernel_rfl
theorem ixId.run_eq  (m : Nat) (x0 : (List (El TShare))) (x1 : ((El TShare) × Unit)) : run (ixId.cfg ) Try.f20.ntmps Try.f20.results.toList m [.code (bodyOf Try.f20)] (enter (ivA ixId.ps (x0, x1, ()))) = ixId.go  m x0 x1 := by kernel_rfl
theorem ixId.ret  (hs : SpecsOK Try.prog (ixId.specs ))  (x0 : (List (El TShare))) (x1 : ((El TShare) × Unit)) {m : Nat} {r : IV} (h : ixId.go  m x0 x1 = some (r, [])) : VE.Returns Try.prog 20 (ivA ixId.ps (x0, x1, ())) r :=
  returns_of_run (cfg := ixId.cfg ) (cfgOK_of mixed tab_ok hs .nil) rfl Try.func20 (body_some (by kernel_rfl)) (Nat.le_of_ble_eq_true (by kernel_rfl)) ((ixId.run_eq  m x0 x1).trans h)
abbrev ixId.Law : Prop := ∀ (x0 : (List (El TShare))) (x1 : ((El TShare) × Unit)), ixId.pre (x0, x1, ()) = true → VE.Returns Try.prog 20 (ivA ixId.ps (x0, x1, ())) (ixId.res (x0, x1, ()))
theorem ixId.mkR (H : ∀ (x0 : (List (El TShare))) (x1 : ((El TShare) × Unit)), ixId.pre (x0, x1, ()) = true → VE.Returns Try.prog 20 (ivA ixId.ps (x0, x1, ())) (ixId.res (x0, x1, ()))) : SpecOK Try.prog 20 ixId.sp :=
  specOf_ret Try.func20 (by kernel_rfl) (by kernel_rfl) fun (x : (List (El TShare)) × ((El TShare) × Unit) × Unit) hx => H (x.1) (x.2.1) hx
theorem ixId.mk  (hs : SpecsOK Try.prog (ixId.specs ))  (H : ∀ (x0 : (List (El TShare))) (x1 : ((El TShare) × Unit)), ixId.pre (x0, x1, ()) = true → ∃ m, ixId.go  m x0 x1 = some (ixId.res (x0, x1, ()), [])) : SpecOK Try.prog 20 ixId.sp :=
  ixId.mkR fun x0 x1 hx => (H x0 x1 hx).elim fun _ hm => ixId.ret  hs  x0 x1 hm

/-! ### slices.ContainsFunc(()triage/api.Share,triage/api.Share) -/
abbrev cfId.ps : List AK := [.d false (.sl TShare), .f 19 [(true, TShare)]]
def cfId.pre : ElA cfId.ps → Bool := fun (x : (List (El TShare)) × ((El TShare) × Unit) × Unit) => fits (.sl TShare) (x.1) && (fits TShare (x.2.1.1) && (true))
def cfId.res : ElA cfId.ps → IV := fun (x : (List (El TShare)) × ((El TShare) × Unit) × Unit) => (fun l x => vb (List.any l (idIs x.1.1))) x.1 x.2.1
def cfId.sp : ISpec := spOf cfId.ps cfId.pre cfId.res
abbrev cfId.OK : Prop := SpecOK Try.prog 18 cfId.sp
noncomputable def cfId.body : Code := bodyOf Try.f18
noncomputable def cfId.rs : List ResultVar := Try.f18.results.toList
def cfId.live : List (Nat × Live) := []
noncomputable def cfId.specs  : List (Nat × (List Bool × ISpec)) := [(20, ([], ixId.sp))]
noncomputable def cfId.ospecs  : List (Nat × OS) := []
noncomputable def cfId.cfg  : Cfg := ⟨lkp tab, lkp (cfId.specs ), lkp cfId.live, ⟨lkp (cfId.ospecs ), [], none, false⟩⟩
noncomputable def cfId.go  (m : Nat) (x0 : (List (El TShare))) (x1 : ((El TShare) × Unit)) : R := run (cfId.cfg ) 9 cfId.rs m [.code cfId.body] (enter (ivA cfId.ps (x0, x1, ())))
theorem cfId.start  (m : Nat) (x0 : (List (El TShare))) (x1 : ((El TShare) × Unit)) : cfId.go  (m + 1) x0 x1 =
  test (ixId.pre (x0, ((x1.1, Unit.unit), Unit.unit))) (
   some ((.c (.v (.bool (decide ((ixOf (idIs x1.1.1) x0) ≥ (0 : Int)))))), [])) := by kernel_rfl
theorem cfId.run_eq  (m : Nat) (x0 : (List (El TShare))) (x1 : ((El TShare) × Unit)) : run (cfId.cfg ) Try.f18.ntmps Try.f18.results.toList m [.code (bodyOf Try.f18)] (enter (ivA cfId.ps (x0, x1, ()))) = cfId.go  m x0 x1 := by kernel_rfl
theorem cfId.ret  (hs : SpecsOK Try.prog (cfId.specs ))  (x0 : (List (El TShare))) (x1 : ((El TShare) × Unit)) {m : Nat} {r : IV} (h : cfId.go  m x0 x1 = some (r, [])) : VE.Returns Try.prog 18 (ivA cfId.ps (x0, x1, ())) r :=
  returns_of_run (cfg := cfId.cfg ) (cfgOK_of mixed tab_ok hs .nil) rfl Try.func18 (body_some (by kernel_rfl)) (Nat.le_of_ble_eq_true (by kernel_rfl)) ((cfId.run_eq  m x0 x1).trans h)
abbrev cfId.Law : Prop := ∀ (x0 : (List (El TShare))) (x1 : ((El TShare) × Unit)), cfId.pre (x0, x1, ()) = true → VE.Returns Try.prog 18 (ivA cfId.ps (x0, x1, ())) (cfId.res (x0, x1, ()))
theorem cfId.mkR (H : ∀ (x0 : (List (El TShare))) (x1 : ((El TShare) × Unit)), cfId.pre (x0, x1, ()) = true → VE.Returns Try.prog 18 (ivA cfId.ps (x0, x1, ())) (cfId.res (x0, x1, ()))) : SpecOK Try.prog 18 cfId.sp :=
  specOf_ret Try.func18 (by kernel_rfl) (by kernel_rfl) fun (x : (List (El TShare)) × ((El TShare) × Unit) × Unit) hx => H (x.1) (x.2.1) hx
theorem cfId.mk  (hs : SpecsOK Try.prog (cfId.specs ))  (H : ∀ (x0 : (List (El TShare))) (x1 : ((El TShare) × Unit)), cfId.pre (x0, x1, ()) = true → ∃ m, cfId.go  m x0 x1 = some (cfId.res (x0, x1, ()), [])) : SpecOK Try.prog 18 cfId.sp :=
  cfId.mkR fun x0 x1 hx => (H x0 x1 hx).elim fun _ hm => cfId.ret  hs  x0 x1 hm

/-! ### triage/round.may -/
abbrev mayW.ps : List AK := [.d false (.sl TShare)]
def mayW.pre : ElA mayW.ps → Bool := fun (x : (List (El TShare)) × Unit) => fits (.sl TShare) (x.1) && (true)
def mayW.res : ElA mayW.ps → IV := fun (x : (List (El TShare)) × Unit) => (fun l => vb (mayRow l)) x.1
def mayW.sp : ISpec := spOf mayW.ps mayW.pre mayW.res
abbrev mayW.OK : Prop := SpecOK Try.prog 15 mayW.sp
noncomputable def mayW.body : Code := bodyOf Try.f15
noncomputable def mayW.rs : List ResultVar := Try.f15.results.toList
def mayW.live : List (Nat × Live) := [(2, ⟨[(0, .sl TShare), (5, .sl TShare), (6, .plain), (7, .plain)], []⟩)]
noncomputable def mayW.specs  : List (Nat × (List Bool × ISpec)) := [(18, ([], cfId.sp))]
noncomputable def mayW.ospecs  : List (Nat × OS) := []
noncomputable def mayW.cfg  : Cfg := ⟨lkp tab, lkp (mayW.specs ), lkp mayW.live, ⟨lkp (mayW.ospecs ), [], none, false⟩⟩
noncomputable def mayW.l1  (m : Nat) (x0 : List (El TShare)) (x1 : List (El TShare)) (x2 : Int) (x3 : Int) : R := run (mayW.cfg ) 36 mayW.rs m ((todoR 2 mayW.body []).getD []) ⟨ofList (.c .junk) [(0, (.c (.sl TShare x0))), (5, (.c (.sl TShare x1))), (6, (.c (.v (.int .i64 x2)))), (7, (.c (.v (.int .i64 x3))))], ofList none [], ofList false []⟩
noncomputable def mayW.go  (m : Nat) (x0 : (List (El TShare))) : R := run (mayW.cfg ) 36 mayW.rs m [.code mayW.body] (enter (ivA mayW.ps (x0, ())))
theorem mayW.start  (m : Nat) (x0 : (List (El TShare))) : mayW.go  (m + 1) x0 =
  mayW.l1  m x0 x0 ((List.length x0) : Int) (0 : Int) := by kernel_rfl
theorem mayW.s1  (m : Nat) (x0 : List (El TShare)) (x1 : List (El TShare)) (x2 : Int) (x3 : Int) : mayW.l1  (m + 1) x0 x1 x2 x3 =
  cond (decide (x3 < x2)) (
   test (decide ((0 : Int) ≤ x3)) (
    test (decide (x3 < ((List.length x1) : Int))) (
     cond (decide (((rdEl TShare x1 (Int.toNat x3))).2 < (1 : Int))) (
      some ((.c (.v (.bool false))), [])) (
      cond (decide (((rdEl TShare x1 (Int.toNat x3))).2 > (1000000 : Int))) (
       some ((.c (.v (.bool false))), [])) (
       test (decide ((0 : Int) ≤ x3)) (
        test (decide (x3 ≤ ((List.length x0) : Int))) (
         test (cfId.pre ((List.drop 0 (List.take (Int.toNat x3) x0)), ((((rdEl TShare x1 (Int.toNat x3))), Unit.unit), Unit.unit))) (
          cond (List.any (List.drop 0 (List.take (Int.toNat x3) x0)) (idIs ((rdEl TShare x1 (Int.toNat x3))).1)) (
           some ((.c (.v (.bool false))), [])) (
           mayW.l1  m x0 x1 x2 (IntKind.i64.wrap (x3 + (1 : Int)))))))))))) (
   cond (decide (((List.length x0) : Int) ≥ (1 : Int))) (
    some ((.c (.v (.bool (decide (((List.length x0) : Int) ≤ (64 : Int)))))), [])) (
    some ((.c (.v (.bool false))), []))) := by kernel_rfl
theorem mayW.run_eq  (m : Nat) (x0 : (List (El TShare))) : run (mayW.cfg ) Try.f15.ntmps Try.f15.results.toList m [.code (bodyOf Try.f15)] (enter (ivA mayW.ps (x0, ()))) = mayW.go  m x0 := by kernel_rfl
theorem mayW.ret  (hs : SpecsOK Try.prog (mayW.specs ))  (x0 : (List (El TShare))) {m : Nat} {r : IV} (h : mayW.go  m x0 = some (r, [])) : VE.Returns Try.prog 15 (ivA mayW.ps (x0, ())) r :=
  returns_of_run (cfg := mayW.cfg ) (cfgOK_of mixed tab_ok hs .nil) rfl Try.func15 (body_some (by kernel_rfl)) (Nat.le_of_ble_eq_true (by kernel_rfl)) ((mayW.run_eq  m x0).trans h)
abbrev mayW.Law : Prop := ∀ (x0 : (List (El TShare))), mayW.pre (x0, ()) = true → VE.Returns Try.prog 15 (ivA mayW.ps (x0, ())) (mayW.res (x0, ()))
theorem mayW.mkR (H : ∀ (x0 : (List (El TShare))), mayW.pre (x0, ()) = true → VE.Returns Try.prog 15 (ivA mayW.ps (x0, ())) (mayW.res (x0, ()))) : SpecOK Try.prog 15 mayW.sp :=
  specOf_ret Try.func15 (by kernel_rfl) (by kernel_rfl) fun (x : (List (El TShare)) × Unit) hx => H (x.1) hx
theorem mayW.mk  (hs : SpecsOK Try.prog (mayW.specs ))  (H : ∀ (x0 : (List (El TShare))), mayW.pre (x0, ()) = true → ∃ m, mayW.go  m x0 = some (mayW.res (x0, ()), [])) : SpecOK Try.prog 15 mayW.sp :=
  mayW.mkR fun x0 hx => (H x0 hx).elim fun _ hm => mayW.ret  hs  x0 hm

/-! ### triage/triageref10.MayRow -/
abbrev mayRR.ps : List AK := [.d false (.sl TShare)]
def mayRR.pre : ElA mayRR.ps → Bool := fun (x : (List (El TShare)) × Unit) => fits (.sl TShare) (x.1) && (true)
def mayRR.res : ElA mayRR.ps → IV := fun (x : (List (El TShare)) × Unit) => (fun l => vb (mayRow l)) x.1
def mayRR.sp : ISpec := spOf mayRR.ps mayRR.pre mayRR.res
abbrev mayRR.OK : Prop := SpecOK Try.prog 14 mayRR.sp
noncomputable def mayRR.body : Code := bodyOf Try.f14
noncomputable def mayRR.rs : List ResultVar := Try.f14.results.toList
def mayRR.live : List (Nat × Live) := [(7, ⟨[(0, .sl TShare), (4, .plain), (7, .sl TShare), (8, .plain), (9, .plain), (24, .sl TShare), (25, .plain), (26, .plain)], [(1543, [])]⟩), (2, ⟨[(0, .sl TShare), (7, .sl TShare), (8, .plain), (9, .plain)], []⟩)]
noncomputable def mayRR.specs  : List (Nat × (List Bool × ISpec)) := []
noncomputable def mayRR.ospecs  : List (Nat × OS) := []
noncomputable def mayRR.cfg  : Cfg := ⟨lkp tab, lkp (mayRR.specs ), lkp mayRR.live, ⟨lkp (mayRR.ospecs ), [], none, false⟩⟩
noncomputable def mayRR.l1  (m : Nat) (x0 : List (El TShare)) (x1 : List (El TShare)) (x2 : Int) (x3 : Int) : R := run (mayRR.cfg ) 45 mayRR.rs m ((todoR 2 mayRR.body []).getD []) ⟨ofList (.c .junk) [(0, (.c (.sl TShare x0))), (7, (.c (.sl TShare x1))), (8, (.c (.v (.int .i64 x2)))), (9, (.c (.v (.int .i64 x3))))], ofList none [], ofList false []⟩
noncomputable def mayRR.l2  (m : Nat) (x0 : List (El TShare)) (x1 : List (El TShare)) (x2 : Int) (x3 : Int) (x4 : List (El TShare)) (x5 : Int) (x6 : Int) (x7 : Int) (x8 : Int) : R := run (mayRR.cfg ) 45 mayRR.rs m ((todoR 7 mayRR.body []).getD []) ⟨ofList (.c .junk) [(0, (.c (.sl TShare x0))), (4, (.c (.ref 1543 0))), (7, (.c (.sl TShare x1))), (8, (.c (.v (.int .i64 x2)))), (9, (.c (.v (.int .i64 x3)))), (24, (.c (.sl TShare x4))), (25, (.c (.v (.int .i64 x5)))), (26, (.c (.v (.int .i64 x6))))], ofList none [(1543, some (.cells 39 [(.v (.int .i64 x7)), (.v (.int .i64 x8))]))], ofList false [(1543, true)]⟩
noncomputable def mayRR.go  (m : Nat) (x0 : (List (El TShare))) : R := run (mayRR.cfg ) 45 mayRR.rs m [.code mayRR.body] (enter (ivA mayRR.ps (x0, ())))
theorem mayRR.start  (m : Nat) (x0 : (List (El TShare))) : mayRR.go  (m + 1) x0 =
  mayRR.l1  m x0 x0 ((List.length x0) : Int) (0 : Int) := by kernel_rfl
theorem mayRR.s1  (m : Nat) (x0 : List (El TShare)) (x1 : List (El TShare)) (x2 : Int) (x3 : Int) : mayRR.l1  (m + 1) x0 x1 x2 x3 =
  cond (decide (x3 < x2)) (
   test (decide ((0 : Int) ≤ x3)) (
    test (decide (x3 < ((List.length x1) : Int))) (
     cond (decide (((rdEl TShare x1 (Int.toNat x3))).2 < (1 : Int))) (
      some ((.c (.v (.bool false))), [])) (
      cond (decide (((rdEl TShare x1 (Int.toNat x3))).2 > (1000000 : Int))) (
       some ((.c (.v (.bool false))), [])) (
       test (decide ((0 : Int) ≤ x3)) (
        test (decide (x3 ≤ ((List.length x0) : Int))) (
         mayRR.l2  m x0 x1 x2 x3 (List.drop 0 (List.take (Int.toNat x3) x0)) ((List.length (List.drop 0 (List.take (Int.toNat x3) x0))) : Int) (0 : Int) ((rdEl TShare x1 (Int.toNat x3))).1 ((rdEl TShare x1 (Int.toNat x3))).2))))))) (
   cond (decide (((List.length x0) : Int) > (0 : Int))) (
    some ((.c (.v (.bool (decide (((List.length x0) : Int) ≤ (64 : Int)))))), [])) (
    some ((.c (.v (.bool false))), []))) := by kernel_rfl
theorem mayRR.s2  (m : Nat) (x0 : List (El TShare)) (x1 : List (El TShare)) (x2 : Int) (x3 : Int) (x4 : List (El TShare)) (x5 : Int) (x6 : Int) (x7 : Int) (x8 : Int) : mayRR.l2  (m + 1) x0 x1 x2 x3 x4 x5 x6 x7 x8 =
  cond (decide (x6 < x5)) (
   test (decide ((0 : Int) ≤ x6)) (
    test (decide (x6 < ((List.length x4) : Int))) (
     cond (x7 == ((rdEl TShare x4 (Int.toNat x6))).1) (
      some ((.c (.v (.bool false))), [])) (
      mayRR.l2  m x0 x1 x2 x3 x4 x5 (IntKind.i64.wrap (x6 + (1 : Int))) x7 x8)))) (
   mayRR.l1  m x0 x1 x2 (IntKind.i64.wrap (x3 + (1 : Int)))) := by kernel_rfl
theorem mayRR.run_eq  (m : Nat) (x0 : (List (El TShare))) : run (mayRR.cfg ) Try.f14.ntmps Try.f14.results.toList m [.code (bodyOf Try.f14)] (enter (ivA mayRR.ps (x0, ()))) = mayRR.go  m x0 := by kernel_rfl
theorem mayRR.ret  (hs : SpecsOK Try.prog (mayRR.specs ))  (x0 : (List (El TShare))) {m : Nat} {r : IV} (h : mayRR.go  m x0 = some (r, [])) : VE.Returns Try.prog 14 (ivA mayRR.ps (x0, ())) r :=
  returns_of_run (cfg := mayRR.cfg ) (cfgOK_of mixed tab_ok hs .nil) rfl Try.func14 (body_some (by kernel_rfl)) (Nat.le_of_ble_eq_true (by kernel_rfl)) ((mayRR.run_eq  m x0).trans h)
abbrev mayRR.Law : Prop := ∀ (x0 : (List (El TShare))), mayRR.pre (x0, ()) = true → VE.Returns Try.prog 14 (ivA mayRR.ps (x0, ())) (mayRR.res (x0, ()))
theorem mayRR.mkR (H : ∀ (x0 : (List (El TShare))), mayRR.pre (x0, ()) = true → VE.Returns Try.prog 14 (ivA mayRR.ps (x0, ())) (mayRR.res (x0, ()))) : SpecOK Try.prog 14 mayRR.sp :=
  specOf_ret Try.func14 (by kernel_rfl) (by kernel_rfl) fun (x : (List (El TShare)) × Unit) hx => H (x.1) hx
theorem mayRR.mk  (hs : SpecsOK Try.prog (mayRR.specs ))  (H : ∀ (x0 : (List (El TShare))), mayRR.pre (x0, ()) = true → ∃ m, mayRR.go  m x0 = some (mayRR.res (x0, ()), [])) : SpecOK Try.prog 14 mayRR.sp :=
  mayRR.mkR fun x0 hx => (H x0 hx).elim fun _ hm => mayRR.ret  hs  x0 hm

/-! ### slices.Equal(()triage/api.Share,triage/api.Share) -/
abbrev eqS.ps : List AK := [.d false (.sl TShare), .d false (.sl TShare)]
def eqS.pre : ElA eqS.ps → Bool := fun (x : (List (El TShare)) × (List (El TShare)) × Unit) => fits (.sl TShare) (x.1) && (fits (.sl TShare) (x.2.1) && (true))
def eqS.res : ElA eqS.ps → IV := fun (x : (List (El TShare)) × (List (El TShare)) × Unit) => (fun l m => vb (eqSh l m)) x.1 x.2.1
def eqS.sp : ISpec := spOf eqS.ps eqS.pre eqS.res
abbrev eqS.OK : Prop := SpecOK Try.prog 16 eqS.sp
noncomputable def eqS.body : Code := bodyOf Try.f16
noncomputable def eqS.rs : List ResultVar := Try.f16.results.toList
def eqS.live : List (Nat × Live) := [(4, ⟨[(0, .sl TShare), (1, .sl TShare), (12, .plain), (13, .plain)], []⟩)]
noncomputable def eqS.specs  : List (Nat × (List Bool × ISpec)) := []
noncomputable def eqS.ospecs  : List (Nat × OS) := []
noncomputable def eqS.cfg  : Cfg := ⟨lkp tab, lkp (eqS.specs ), lkp eqS.live, ⟨lkp (eqS.ospecs ), [], none, false⟩⟩
noncomputable def eqS.l1  (m : Nat) (x0 : List (El TShare)) (x1 : List (El TShare)) (x2 : Int) (x3 : Int) : R := run (eqS.cfg ) 26 eqS.rs m ((todoR 4 eqS.body []).getD []) ⟨ofList (.c .junk) [(0, (.c (.sl TShare x0))), (1, (.c (.sl TShare x1))), (12, (.c (.v (.int .i64 x2)))), (13, (.c (.v (.int .i64 x3))))], ofList none [], ofList false []⟩
noncomputable def eqS.go  (m : Nat) (x0 : (List (El TShare))) (x1 : (List (El TShare))) : R := run (eqS.cfg ) 26 eqS.rs m [.code eqS.body] (enter (ivA eqS.ps (x0, x1, ())))
theorem eqS.start  (m : Nat) (x0 : (List (El TShare))) (x1 : (List (El TShare))) : eqS.go  (m + 1) x0 x1 =
  cond (bne ((List.length x0) : Int) ((List.length x1) : Int)) (
   some ((.c (.v (.bool false))), [])) (
   eqS.l1  m x0 x1 ((List.length x0) : Int) (0 : Int)) := by kernel_rfl
theorem eqS.s1  (m : Nat) (x0 : List (El TShare)) (x1 : List (El TShare)) (x2 : Int) (x3 : Int) : eqS.l1  (m + 1) x0 x1 x2 x3 =
  cond (decide (x3 < x2)) (
   test (decide ((0 : Int) ≤ x3)) (
    test (decide (x3 < ((List.length x0) : Int))) (
     test (decide ((0 : Int) ≤ x3)) (
      test (decide (x3 < ((List.length x1) : Int))) (
       cond (Bool.not ((((rdEl TShare x0 (Int.toNat x3))).1 == ((rdEl TShare x1 (Int.toNat x3))).1) && ((((rdEl TShare x0 (Int.toNat x3))).2 == ((rdEl TShare x1 (Int.toNat x3))).2) && true))) (
        some ((.c (.v (.bool false))), [])) (
        eqS.l1  m x0 x1 x2 (IntKind.i64.wrap (x3 + (1 : Int))))))))) (
   some ((.c (.v (.bool true))), [])) := by kernel_rfl
theorem eqS.run_eq  (m : Nat) (x0 : (List (El TShare))) (x1 : (List (El TShare))) : run (eqS.cfg ) Try.f16.ntmps Try.f16.results.toList m [.code (bodyOf Try.f16)] (enter (ivA eqS.ps (x0, x1, ()))) = eqS.go  m x0 x1 := by kernel_rfl
theorem eqS.ret  (hs : SpecsOK Try.prog (eqS.specs ))  (x0 : (List (El TShare))) (x1 : (List (El TShare))) {m : Nat} {r : IV} (h : eqS.go  m x0 x1 = some (r, [])) : VE.Returns Try.prog 16 (ivA eqS.ps (x0, x1, ())) r :=
  returns_of_run (cfg := eqS.cfg ) (cfgOK_of mixed tab_ok hs .nil) rfl Try.func16 (body_some (by kernel_rfl)) (Nat.le_of_ble_eq_true (by kernel_rfl)) ((eqS.run_eq  m x0 x1).trans h)
abbrev eqS.Law : Prop := ∀ (x0 : (List (El TShare))) (x1 : (List (El TShare))), eqS.pre (x0, x1, ()) = true → VE.Returns Try.prog 16 (ivA eqS.ps (x0, x1, ())) (eqS.res (x0, x1, ()))
theorem eqS.mkR (H : ∀ (x0 : (List (El TShare))) (x1 : (List (El TShare))), eqS.pre (x0, x1, ()) = true → VE.Returns Try.prog 16 (ivA eqS.ps (x0, x1, ())) (eqS.res (x0, x1, ()))) : SpecOK Try.prog 16 eqS.sp :=
  specOf_ret Try.func16 (by kernel_rfl) (by kernel_rfl) fun (x : (List (El TShare)) × (List (El TShare)) × Unit) hx => H (x.1) (x.2.1) hx
theorem eqS.mk  (hs : SpecsOK Try.prog (eqS.specs ))  (H : ∀ (x0 : (List (El TShare))) (x1 : (List (El TShare))), eqS.pre (x0, x1, ()) = true → ∃ m, eqS.go  m x0 x1 = some (eqS.res (x0, x1, ()), [])) : SpecOK Try.prog 16 eqS.sp :=
  eqS.mkR fun x0 x1 hx => (H x0 x1 hx).elim fun _ hm => eqS.ret  hs  x0 x1 hm

/-! ### slices.Clone(()triage/api.Share,triage/api.Share) -/
abbrev clone.ps : List AK := [.d false (.sl TShare)]
def clone.pre : ElA clone.ps → Bool := fun (x : (List (El TShare)) × Unit) => fits (.sl TShare) (x.1) && (true)
def clone.res : ElA clone.ps → IV := fun (x : (List (El TShare)) × Unit) => (fun l => .c (.sl TShare l)) x.1
def clone.sp : ISpec := spOf clone.ps clone.pre clone.res
abbrev clone.OK : Prop := SpecOK Try.prog 17 clone.sp
theorem clone.mkR (H : ∀ (x0 : (List (El TShare))), clone.pre (x0, ()) = true → VE.Returns Try.prog 17 (ivA clone.ps (x0, ())) (clone.res (x0, ()))) : SpecOK Try.prog 17 clone.sp :=
  specOf_ret Try.func17 (by kernel_rfl) (by kernel_rfl) fun (x : (List (El TShare)) × Unit) hx => H (x.1) hx

/-! ### slices.Clone(()triage/api.Share,triage/api.Share) -/
noncomputable def cloneN.body : Code := bodyOf Try.f17
noncomputable def cloneN.rs : List ResultVar := Try.f17.results.toList
def cloneN.live : List (Nat × Live) := []
noncomputable def cloneN.specs  : List (Nat × (List Bool × ISpec)) := []
noncomputable def cloneN.ospecs  : List (Nat × OS) := []
noncomputable def cloneN.cfg  : Cfg := ⟨lkp tab, lkp (cloneN.specs ), lkp cloneN.live, ⟨lkp (cloneN.ospecs ), [], none, false⟩⟩
noncomputable def cloneN.go  (m : Nat)  : R := run (cloneN.cfg ) 8 cloneN.rs m [.code cloneN.body] (enter [.c (.v (.slice none 0 0))])
theorem cloneN.start  (m : Nat)  : cloneN.go  (m + 1)  =
  some ((.c (.v (.slice none 0 0))), []) := by kernel_rfl
theorem cloneN.run_eq  (m : Nat)  : run (cloneN.cfg ) Try.f17.ntmps Try.f17.results.toList m [.code (bodyOf Try.f17)] (enter [.c (.v (.slice none 0 0))]) = cloneN.go  m  := by kernel_rfl
theorem cloneN.ret  (hs : SpecsOK Try.prog (cloneN.specs ))   {m : Nat} {r : IV} (h : cloneN.go  m  = some (r, [])) : VE.Returns Try.prog 17 [.c (.v (.slice none 0 0))] r :=
  returns_of_run (cfg := cloneN.cfg ) (cfgOK_of mixed tab_ok hs .nil) rfl Try.func17 (body_some (by kernel_rfl)) (Nat.le_of_ble_eq_true (by kernel_rfl)) ((cloneN.run_eq  m ).trans h)

/-! ### slices.Clone(()triage/api.Share,triage/api.Share) -/
noncomputable def cloneE.body : Code := bodyOf Try.f17
noncomputable def cloneE.rs : List ResultVar := Try.f17.results.toList
def cloneE.live : List (Nat × Live) := []
noncomputable def cloneE.specs  : List (Nat × (List Bool × ISpec)) := []
noncomputable def cloneE.ospecs  : List (Nat × OS) := []
noncomputable def cloneE.cfg  : Cfg := ⟨lkp tab, lkp (cloneE.specs ), lkp cloneE.live, ⟨lkp (cloneE.ospecs ), [], none, false⟩⟩
noncomputable def cloneE.go  (m : Nat)  : R := run (cloneE.cfg ) 8 cloneE.rs m [.code cloneE.body] (enter [.c .emp])
theorem cloneE.start  (m : Nat)  : cloneE.go  (m + 1)  =
  some ((.c (.sl TShare (([] : List (El TShare)) ++ ([] : List (El TShare))))), []) := by kernel_rfl
theorem cloneE.run_eq  (m : Nat)  : run (cloneE.cfg ) Try.f17.ntmps Try.f17.results.toList m [.code (bodyOf Try.f17)] (enter [.c .emp]) = cloneE.go  m  := by kernel_rfl
theorem cloneE.ret  (hs : SpecsOK Try.prog (cloneE.specs ))   {m : Nat} {r : IV} (h : cloneE.go  m  = some (r, [])) : VE.Returns Try.prog 17 [.c .emp] r :=
  returns_of_run (cfg := cloneE.cfg ) (cfgOK_of mixed tab_ok hs .nil) rfl Try.func17 (body_some (by kernel_rfl)) (Nat.le_of_ble_eq_true (by kernel_rfl)) ((cloneE.run_eq  m ).trans h)

/-! ### slices.Clone(()triage/api.Share,triage/api.Share) -/
noncomputable def cloneC.body : Code := bodyOf Try.f17
noncomputable def cloneC.rs : List ResultVar := Try.f17.results.toList
def cloneC.live : List (Nat × Live) := []
noncomputable def cloneC.specs  : List (Nat × (List Bool × ISpec)) := []
noncomputable def cloneC.ospecs  : List (Nat × OS) := []
noncomputable def cloneC.cfg  : Cfg := ⟨lkp tab, lkp (cloneC.specs ), lkp cloneC.live, ⟨lkp (cloneC.ospecs ), [], none, false⟩⟩
noncomputable def cloneC.go  (m : Nat) (x0 : (El TShare)) (x1 : (List (El TShare))) : R := run (cloneC.cfg ) 8 cloneC.rs m [.code cloneC.body] (enter [.c (.sl TShare (x0 :: x1))])
theorem cloneC.start  (m : Nat) (x0 : (El TShare)) (x1 : (List (El TShare))) : cloneC.go  (m + 1) x0 x1 =
  test (decide (((List.length ([] : List (El TShare))) + (List.length (x0 :: x1))) ≤ (lim 16))) (
   some ((.c (.sl TShare (([] : List (El TShare)) ++ (x0 :: x1)))), [])) := by kernel_rfl
theorem cloneC.run_eq  (m : Nat) (x0 : (El TShare)) (x1 : (List (El TShare))) : run (cloneC.cfg ) Try.f17.ntmps Try.f17.results.toList m [.code (bodyOf Try.f17)] (enter [.c (.sl TShare (x0 :: x1))]) = cloneC.go  m x0 x1 := by kernel_rfl
theorem cloneC.ret  (hs : SpecsOK Try.prog (cloneC.specs ))  (x0 : (El TShare)) (x1 : (List (El TShare))) {m : Nat} {r : IV} (h : cloneC.go  m x0 x1 = some (r, [])) : VE.Returns Try.prog 17 [.c (.sl TShare (x0 :: x1))] r :=
  returns_of_run (cfg := cloneC.cfg ) (cfgOK_of mixed tab_ok hs .nil) rfl Try.func17 (body_some (by kernel_rfl)) (Nat.le_of_ble_eq_true (by kernel_rfl)) ((cloneC.run_eq  m x0 x1).trans h)

/-! ### triage/round.New -/
abbrev new.ps : List AK := []
def new.pre : ElA new.ps → Bool := fun (x : Unit) => true
def new.rv : ElA new.ps → List RV := fun (x : Unit) => [.o 47 TWheel [none, some 3] ((([], [])) )]
def new.res : ElA new.ps → IV := fun x => oneOrTup (rvIVs 0 (new.rv x))
def new.back : ElA new.ps → List (Nat × Box) := fun (x : Unit) => rvBxs 0 (new.rv x)
def new.sp : OSpec := spO new.ps new.pre new.res new.back
abbrev new.OK : Prop := SpecOKO Try.prog 9 new.sp
noncomputable def new.body : Code := bodyOf Try.f9
noncomputable def new.rs : List ResultVar := Try.f9.results.toList
def new.live : List (Nat × Live) := []
noncomputable def new.specs  : List (Nat × (List Bool × ISpec)) := []
noncomputable def new.ospecs  : List (Nat × OS) := []
noncomputable def new.cfg  : Cfg := ⟨lkp tab, lkp (new.specs ), lkp new.live, ⟨lkp (new.ospecs ), oids 0 new.ps, some ([.obj [.sl TShare, .arr 3 (.int .i64)]], []), false⟩⟩
noncomputable def new.go  (m : Nat)  : R := run (new.cfg ) 3 new.rs m [.code new.body] (enterO (ivAO 0 new.ps ()) (bxAO 0 new.ps ()))
theorem new.start  (m : Nat)  : new.go  (m + 1)  =
  some ((.c (.ref 115326 0)), [(115326, (.cells 47 [(.sl TShare ([] : List (El TShare))), (.sref 14889730)])), (14889730, (.arr 3 (.int .i64) ([] : List Int) false))]) := by kernel_rfl
theorem new.run_eq  (m : Nat)  : run (new.cfg ) Try.f9.ntmps Try.f9.results.toList m [.code (bodyOf Try.f9)] (enterO (ivAO 0 new.ps ()) (bxAO 0 new.ps ())) = new.go  m  := by kernel_rfl
theorem new.ret  (hs : SpecsOK Try.prog (new.specs ))   {m : Nat} {r : IV} {b : List (Nat × Box)} (h : new.go  m  = some (r, b)) : VE.ReturnsO Try.prog 9 (ivAO 0 new.ps ()) (bxAO 0 new.ps ()) r b :=
  returnsO_of_run (cfg := new.cfg ) (cfgOK_of mixed tab_ok hs .nil) rfl Try.func9 (body_some (by kernel_rfl)) (Nat.le_of_ble_eq_true (by kernel_rfl)) (fun _ _ _ h => oids_mem h) ((new.run_eq  m ).trans h)
abbrev new.Law : Prop := ∀ (_ : Unit), new.pre () = true → VE.ReturnsO Try.prog 9 (ivAO 0 new.ps ()) (bxAO 0 new.ps ()) (new.res ()) (new.back ())
theorem new.mkR (H : ∀ (_ : Unit), new.pre () = true → VE.ReturnsO Try.prog 9 (ivAO 0 new.ps ()) (bxAO 0 new.ps ()) (new.res ()) (new.back ())) : SpecOKO Try.prog 9 new.sp :=
  specO_ret Try.func9 (by kernel_rfl) (by kernel_rfl) fun (x : Unit) hx => H () hx
theorem new.mk  (hs : SpecsOK Try.prog (new.specs ))  (H : ∀ (_ : Unit), new.pre () = true → ∃ m, new.go  m  = some (new.res (), new.back ())) : SpecOKO Try.prog 9 new.sp :=
  new.mkR fun _ hx => (H () hx).elim fun _ hm => new.ret  hs   hm

/-! ### (*triage/round.Wheel).Next -/
abbrev nextW.ps : List AK := [.o 47 TWheel [none, some 3], .d false (.sl TShare)]
def nextW.pre : ElA nextW.ps → Bool := fun (x : (El TWheel) × (List (El TShare)) × Unit) => fits TWheel (x.1) && (fits (.sl TShare) (x.2.1) && ((fun w _ => decide (List.length w.1 = List.length w.2)) x.1 x.2.1 && (true)))
def nextW.rv : ElA nextW.ps → List RV := fun (x : (El TWheel) × (List (El TShare)) × Unit) => [.d ((fun w l => vi .i64 (nextI w l)) x.1 x.2.1), .d ((fun w l => vb (mayRow l)) x.1 x.2.1)]
def nextW.res : ElA nextW.ps → IV := fun x => oneOrTup (rvIVs 0 (nextW.rv x))
def nextW.back : ElA nextW.ps → List (Nat × Box) := fun (x : (El TWheel) × (List (El TShare)) × Unit) => rvBxs 0 (nextW.rv x) ++ objBx 0 47 TWheel [none, some 3] ((fun w l => wheelN w l) x.1 x.2.1)
def nextW.sp : OSpec := spO nextW.ps nextW.pre nextW.res nextW.back
abbrev nextW.OK : Prop := SpecOKO Try.prog 10 nextW.sp
noncomputable def nextW.body : Code := bodyOf Try.f10
noncomputable def nextW.rs : List ResultVar := Try.f10.results.toList
def nextW.live : List (Nat × Live) := [(7, ⟨[(0, .plain), (6, .plain), (7, .plain), (38, .sl TShare), (39, .plain), (40, .plain)], [(oid 0, [.sl TShare, .arr 3 (.int .i64)])]⟩)]
noncomputable def nextW.specs  : List (Nat × (List Bool × ISpec)) := [(15, ([], mayW.sp)), (16, ([], eqS.sp)), (17, ([], clone.sp))]
noncomputable def nextW.ospecs  : List (Nat × OS) := []
noncomputable def nextW.cfg  : Cfg := ⟨lkp tab, lkp (nextW.specs ), lkp nextW.live, ⟨lkp (nextW.ospecs ), oids 0 nextW.ps, some ([.plain, .plain], [(oid 0, [.sl TShare, .arr 3 (.int .i64)])]), false⟩⟩
noncomputable def nextW.l1  (m : Nat) (x0 : Int) (x1 : Int) (x2 : List (El TShare)) (x3 : Int) (x4 : Int) (x5 : List (El TShare)) (x6 : List Int) : R := run (nextW.cfg ) 125 nextW.rs m ((todoR 7 nextW.body []).getD []) ⟨ofList (.c .junk) [(0, (.c (.ref 102526 0))), (6, (.c (.v (.int .i64 x0)))), (7, (.c (.v (.int .i64 x1)))), (38, (.c (.sl TShare x2))), (39, (.c (.v (.int .i64 x3)))), (40, (.c (.v (.int .i64 x4))))], ofList none [(102526, some (.cells 47 [(.sl TShare x5), (.sref 13251330)])), (13251330, some (.arr 3 (.int .i64) x6 false))], ofList false [(102526, true), (13251330, true)]⟩
noncomputable def nextW.go  (m : Nat) (x0 : (El TWheel)) (x1 : (List (El TShare))) : R := run (nextW.cfg ) 125 nextW.rs m [.code nextW.body] (enterO (ivAO 0 nextW.ps (x0, x1, ())) (bxAO 0 nextW.ps (x0, x1, ())))
theorem nextW.start  (m : Nat) (x0 : (El TWheel)) (x1 : (List (El TShare))) : nextW.go  (m + 1) x0 x1 =
  test (mayW.pre (x1, Unit.unit)) (
   cond (Bool.not (mayRow x1)) (
    some ((.tup [(.c (.v (.int .i64 (0 : Int)))), (.c (.v (.bool false)))]), [(102526, (.cells 47 [(.sl TShare x0.1), (.sref 13251330)])), (13251330, (.arr 3 (.int .i64) x0.2 false))])) (
    test (eqS.pre (x0.1, (x1, Unit.unit))) (
     cond (Bool.not (eqSh x0.1 x1)) (
      test (clone.pre (x1, Unit.unit)) (
       test (decide (((List.length x1) : Int) ≤ ((List.length x1) : Int))) (
        test (decide (((List.length x1) : Int) ≤ ((lim 8) : Int))) (
         nextW.l1  m (0 : Int) (0 : Int) x1 ((List.length x1) : Int) (0 : Int) x1 (List.replicate (Int.toNat ((List.length x1) : Int)) (0 : Int)))))) (
      nextW.l1  m (0 : Int) (0 : Int) x0.1 ((List.length x0.1) : Int) (0 : Int) x0.1 x0.2)))) := by kernel_rfl
theorem nextW.s1  (m : Nat) (x0 : Int) (x1 : Int) (x2 : List (El TShare)) (x3 : Int) (x4 : Int) (x5 : List (El TShare)) (x6 : List Int) : nextW.l1  (m + 1) x0 x1 x2 x3 x4 x5 x6 =
  cond (decide (x4 < x3)) (
   test (decide ((0 : Int) ≤ x4)) (
    test (decide (x4 < ((List.length x2) : Int))) (
     test (decide ((0 : Int) ≤ x4)) (
      test (decide (x4 < ((List.length x6) : Int))) (
       test (decide ((0 : Int) ≤ x4)) (
        test (decide (x4 < ((List.length x6) : Int))) (
         test (decide ((0 : Int) ≤ x4)) (
          test (decide (x4 < ((List.length (List.set x6 (Int.toNat x4) (IntKind.i64.wrap ((rdEl (.int .i64) x6 (Int.toNat x4)) + ((rdEl TShare x2 (Int.toNat x4))).2)))) : Int))) (
           test (decide ((0 : Int) ≤ x0)) (
            test (decide (x0 < ((List.length (List.set x6 (Int.toNat x4) (IntKind.i64.wrap ((rdEl (.int .i64) x6 (Int.toNat x4)) + ((rdEl TShare x2 (Int.toNat x4))).2)))) : Int))) (
             cond (decide ((rdEl (.int .i64) (List.set x6 (Int.toNat x4) (IntKind.i64.wrap ((rdEl (.int .i64) x6 (Int.toNat x4)) + ((rdEl TShare x2 (Int.toNat x4))).2))) (Int.toNat x4)) > (rdEl (.int .i64) (List.set x6 (Int.toNat x4) (IntKind.i64.wrap ((rdEl (.int .i64) x6 (Int.toNat x4)) + ((rdEl TShare x2 (Int.toNat x4))).2))) (Int.toNat x0)))) (
              nextW.l1  m x4 (IntKind.i64.wrap (x1 + ((rdEl TShare x2 (Int.toNat x4))).2)) x2 x3 (IntKind.i64.wrap (x4 + (1 : Int))) x5 (List.set x6 (Int.toNat x4) (IntKind.i64.wrap ((rdEl (.int .i64) x6 (Int.toNat x4)) + ((rdEl TShare x2 (Int.toNat x4))).2)))) (
              test (decide ((0 : Int) ≤ x4)) (
               test (decide (x4 < ((List.length (List.set x6 (Int.toNat x4) (IntKind.i64.wrap ((rdEl (.int .i64) x6 (Int.toNat x4)) + ((rdEl TShare x2 (Int.toNat x4))).2)))) : Int))) (
                test (decide ((0 : Int) ≤ x0)) (
                 test (decide (x0 < ((List.length (List.set x6 (Int.toNat x4) (IntKind.i64.wrap ((rdEl (.int .i64) x6 (Int.toNat x4)) + ((rdEl TShare x2 (Int.toNat x4))).2)))) : Int))) (
                  cond ((rdEl (.int .i64) (List.set x6 (Int.toNat x4) (IntKind.i64.wrap ((rdEl (.int .i64) x6 (Int.toNat x4)) + ((rdEl TShare x2 (Int.toNat x4))).2))) (Int.toNat x4)) == (rdEl (.int .i64) (List.set x6 (Int.toNat x4) (IntKind.i64.wrap ((rdEl (.int .i64) x6 (Int.toNat x4)) + ((rdEl TShare x2 (Int.toNat x4))).2))) (Int.toNat x0))) (
                   test (decide ((0 : Int) ≤ x0)) (
                    test (decide (x0 < ((List.length x5) : Int))) (
                     cond (decide (((rdEl TShare x2 (Int.toNat x4))).1 < ((rdEl TShare x5 (Int.toNat x0))).1)) (
                      nextW.l1  m x4 (IntKind.i64.wrap (x1 + ((rdEl TShare x2 (Int.toNat x4))).2)) x2 x3 (IntKind.i64.wrap (x4 + (1 : Int))) x5 (List.set x6 (Int.toNat x4) (IntKind.i64.wrap ((rdEl (.int .i64) x6 (Int.toNat x4)) + ((rdEl TShare x2 (Int.toNat x4))).2)))) (
                      nextW.l1  m x0 (IntKind.i64.wrap (x1 + ((rdEl TShare x2 (Int.toNat x4))).2)) x2 x3 (IntKind.i64.wrap (x4 + (1 : Int))) x5 (List.set x6 (Int.toNat x4) (IntKind.i64.wrap ((rdEl (.int .i64) x6 (Int.toNat x4)) + ((rdEl TShare x2 (Int.toNat x4))).2))))))) (
                   nextW.l1  m x0 (IntKind.i64.wrap (x1 + ((rdEl TShare x2 (Int.toNat x4))).2)) x2 x3 (IntKind.i64.wrap (x4 + (1 : Int))) x5 (List.set x6 (Int.toNat x4) (IntKind.i64.wrap ((rdEl (.int .i64) x6 (Int.toNat x4)) + ((rdEl TShare x2 (Int.toNat x4))).2)))))))))))))))))))) (
   test (decide ((0 : Int) ≤ x0)) (
    test (decide (x0 < ((List.length x6) : Int))) (
     test (decide ((0 : Int) ≤ x0)) (
      test (decide (x0 < ((List.length x6) : Int))) (
       test (decide ((0 : Int) ≤ x0)) (
        test (decide (x0 < ((List.length x5) : Int))) (
         some ((.tup [(.c (.v (.int .i64 ((rdEl TShare x5 (Int.toNat x0))).1))), (.c (.v (.bool true)))]), [(102526, (.cells 47 [(.sl TShare x5), (.sref 13251330)])), (13251330, (.arr 3 (.int .i64) (List.set x6 (Int.toNat x0) (IntKind.i64.wrap ((rdEl (.int .i64) x6 (Int.toNat x0)) - x1))) false))])))))))) := by kernel_rfl
theorem nextW.run_eq  (m : Nat) (x0 : (El TWheel)) (x1 : (List (El TShare))) : run (nextW.cfg ) Try.f10.ntmps Try.f10.results.toList m [.code (bodyOf Try.f10)] (enterO (ivAO 0 nextW.ps (x0, x1, ())) (bxAO 0 nextW.ps (x0, x1, ()))) = nextW.go  m x0 x1 := by kernel_rfl
theorem nextW.ret  (hs : SpecsOK Try.prog (nextW.specs ))  (x0 : (El TWheel)) (x1 : (List (El TShare))) {m : Nat} {r : IV} {b : List (Nat × Box)} (h : nextW.go  m x0 x1 = some (r, b)) : VE.ReturnsO Try.prog 10 (ivAO 0 nextW.ps (x0, x1, ())) (bxAO 0 nextW.ps (x0, x1, ())) r b :=
  returnsO_of_run (cfg := nextW.cfg ) (cfgOK_of mixed tab_ok hs .nil) rfl Try.func10 (body_some (by kernel_rfl)) (Nat.le_of_ble_eq_true (by kernel_rfl)) (fun _ _ _ h => oids_mem h) ((nextW.run_eq  m x0 x1).trans h)
abbrev nextW.Law : Prop := ∀ (x0 : (El TWheel)) (x1 : (List (El TShare))), nextW.pre (x0, x1, ()) = true → VE.ReturnsO Try.prog 10 (ivAO 0 nextW.ps (x0, x1, ())) (bxAO 0 nextW.ps (x0, x1, ())) (nextW.res (x0, x1, ())) (nextW.back (x0, x1, ()))
theorem nextW.mkR (H : ∀ (x0 : (El TWheel)) (x1 : (List (El TShare))), nextW.pre (x0, x1, ()) = true → VE.ReturnsO Try.prog 10 (ivAO 0 nextW.ps (x0, x1, ())) (bxAO 0 nextW.ps (x0, x1, ())) (nextW.res (x0, x1, ())) (nextW.back (x0, x1, ()))) : SpecOKO Try.prog 10 nextW.sp :=
  specO_ret Try.func10 (by kernel_rfl) (by kernel_rfl) fun (x : (El TWheel) × (List (El TShare)) × Unit) hx => H (x.1) (x.2.1) hx
theorem nextW.mk  (hs : SpecsOK Try.prog (nextW.specs ))  (H : ∀ (x0 : (El TWheel)) (x1 : (List (El TShare))), nextW.pre (x0, x1, ()) = true → ∃ m, nextW.go  m x0 x1 = some (nextW.res (x0, x1, ()), nextW.back (x0, x1, ()))) : SpecOKO Try.prog 10 nextW.sp :=
  nextW.mkR fun x0 x1 hx => (H x0 x1 hx).elim fun _ hm => nextW.ret  hs  x0 x1 hm

/-! ### (*triage/round.Wheel).Next -/
abbrev nextZ.ps : List AK := [.z, .d false (.sl TShare)]
def nextZ.pre : ElA nextZ.ps → Bool := fun (x : (List (El TShare)) × Unit) => fits (.sl TShare) (x.1) && (true)
def nextZ.rv : ElA nextZ.ps → List RV := fun (x : (List (El TShare)) × Unit) => [.d ((fun l => vi .i64 0) x.1), .d ((fun l => vb false) x.1)]
def nextZ.res : ElA nextZ.ps → IV := fun x => oneOrTup (rvIVs 0 (nextZ.rv x))
def nextZ.back : ElA nextZ.ps → List (Nat × Box) := fun (x : (List (El TShare)) × Unit) => rvBxs 0 (nextZ.rv x)
def nextZ.sp : OSpec := spO nextZ.ps nextZ.pre nextZ.res nextZ.back
abbrev nextZ.OK : Prop := SpecOKO Try.prog 10 nextZ.sp
noncomputable def nextZ.body : Code := bodyOf Try.f10
noncomputable def nextZ.rs : List ResultVar := Try.f10.results.toList
def nextZ.live : List (Nat × Live) := [(7, ⟨[(0, .plain), (6, .plain), (7, .plain), (38, .sl TShare), (39, .plain), (40, .plain)], []⟩)]
noncomputable def nextZ.specs  : List (Nat × (List Bool × ISpec)) := []
noncomputable def nextZ.ospecs  : List (Nat × OS) := []
noncomputable def nextZ.cfg  : Cfg := ⟨lkp tab, lkp (nextZ.specs ), lkp nextZ.live, ⟨lkp (nextZ.ospecs ), oids 0 nextZ.ps, some ([.plain, .plain], []), false⟩⟩
noncomputable def nextZ.go  (m : Nat) (x0 : (List (El TShare))) : R := run (nextZ.cfg ) 125 nextZ.rs m [.code nextZ.body] (enterO (ivAO 0 nextZ.ps (x0, ())) (bxAO 0 nextZ.ps (x0, ())))
theorem nextZ.start  (m : Nat) (x0 : (List (El TShare))) : nextZ.go  (m + 1) x0 =
  some ((.tup [(.c (.v (.int .i64 (0 : Int)))), (.c (.v (.bool false)))]), []) := by kernel_rfl
theorem nextZ.run_eq  (m : Nat) (x0 : (List (El TShare))) : run (nextZ.cfg ) Try.f10.ntmps Try.f10.results.toList m [.code (bodyOf Try.f10)] (enterO (ivAO 0 nextZ.ps (x0, ())) (bxAO 0 nextZ.ps (x0, ()))) = nextZ.go  m x0 := by kernel_rfl
theorem nextZ.ret  (hs : SpecsOK Try.prog (nextZ.specs ))  (x0 : (List (El TShare))) {m : Nat} {r : IV} {b : List (Nat × Box)} (h : nextZ.go  m x0 = some (r, b)) : VE.ReturnsO Try.prog 10 (ivAO 0 nextZ.ps (x0, ())) (bxAO 0 nextZ.ps (x0, ())) r b :=
  returnsO_of_run (cfg := nextZ.cfg ) (cfgOK_of mixed tab_ok hs .nil) rfl Try.func10 (body_some (by kernel_rfl)) (Nat.le_of_ble_eq_true (by kernel_rfl)) (fun _ _ _ h => oids_mem h) ((nextZ.run_eq  m x0).trans h)
abbrev nextZ.Law : Prop := ∀ (x0 : (List (El TShare))), nextZ.pre (x0, ()) = true → VE.ReturnsO Try.prog 10 (ivAO 0 nextZ.ps (x0, ())) (bxAO 0 nextZ.ps (x0, ())) (nextZ.res (x0, ())) (nextZ.back (x0, ()))
theorem nextZ.mkR (H : ∀ (x0 : (List (El TShare))), nextZ.pre (x0, ()) = true → VE.ReturnsO Try.prog 10 (ivAO 0 nextZ.ps (x0, ())) (bxAO 0 nextZ.ps (x0, ())) (nextZ.res (x0, ())) (nextZ.back (x0, ()))) : SpecOKO Try.prog 10 nextZ.sp :=
  specO_ret Try.func10 (by kernel_rfl) (by kernel_rfl) fun (x : (List (El TShare)) × Unit) hx => H (x.1) hx
theorem nextZ.mk  (hs : SpecsOK Try.prog (nextZ.specs ))  (H : ∀ (x0 : (List (El TShare))), nextZ.pre (x0, ()) = true → ∃ m, nextZ.go  m x0 = some (nextZ.res (x0, ()), nextZ.back (x0, ()))) : SpecOKO Try.prog 10 nextZ.sp :=
  nextZ.mkR fun x0 hx => (H x0 hx).elim fun _ hm => nextZ.ret  hs  x0 hm

/-! ### (*triage/round.Wheel).Turns -/
abbrev turns.ps : List AK := [.o 47 TWheel [none, some 3]]
def turns.pre : ElA turns.ps → Bool := fun (x : (El TWheel) × Unit) => fits TWheel (x.1) && ((fun w => decide (List.length w.1 = List.length w.2)) x.1 && (true))
def turns.rv : ElA turns.ps → List RV := fun (x : (El TWheel) × Unit) => [.d ((fun w => .c (.sl TShare (turnsOf w.1 w.2))) x.1)]
def turns.res : ElA turns.ps → IV := fun x => oneOrTup (rvIVs 0 (turns.rv x))
def turns.back : ElA turns.ps → List (Nat × Box) := fun (x : (El TWheel) × Unit) => rvBxs 0 (turns.rv x) ++ objBx 0 47 TWheel [none, some 3] ((fun w => w) x.1)
def turns.sp : OSpec := spO turns.ps turns.pre turns.res turns.back
abbrev turns.OK : Prop := SpecOKO Try.prog 13 turns.sp
noncomputable def turns.body : Code := bodyOf Try.f13
noncomputable def turns.rs : List ResultVar := Try.f13.results.toList
def turns.live : List (Nat × Live) := [(5, ⟨[(0, .plain), (3, .arr 42 TShare), (11, .sl TShare), (12, .plain), (13, .plain)], [(oid 0, [.sl TShare, .arr 3 (.int .i64)])]⟩)]
noncomputable def turns.specs  : List (Nat × (List Bool × ISpec)) := []
noncomputable def turns.ospecs  : List (Nat × OS) := []
noncomputable def turns.cfg  : Cfg := ⟨lkp tab, lkp (turns.specs ), lkp turns.live, ⟨lkp (turns.ospecs ), oids 0 turns.ps, some ([.sl TShare], [(oid 0, [.sl TShare, .arr 3 (.int .i64)])]), false⟩⟩
noncomputable def turns.l1  (m : Nat) (x0 : List (El TShare)) (x1 : Int) (x2 : Int) (x3 : List (El TShare)) (x4 : List (El TShare)) (x5 : List Int) : R := run (turns.cfg ) 33 turns.rs m ((todoR 5 turns.body []).getD []) ⟨ofList (.c .junk) [(0, (.c (.ref 102526 0))), (3, (.c (.sref 510))), (11, (.c (.sl TShare x0))), (12, (.c (.v (.int .i64 x1)))), (13, (.c (.v (.int .i64 x2))))], ofList none [(510, some (.arr 42 TShare x3 false)), (102526, some (.cells 47 [(.sl TShare x4), (.sref 13251330)])), (13251330, some (.arr 3 (.int .i64) x5 false))], ofList false [(510, true), (102526, true), (13251330, true)]⟩
noncomputable def turns.go  (m : Nat) (x0 : (El TWheel)) : R := run (turns.cfg ) 33 turns.rs m [.code turns.body] (enterO (ivAO 0 turns.ps (x0, ())) (bxAO 0 turns.ps (x0, ())))
theorem turns.start  (m : Nat) (x0 : (El TWheel)) : turns.go  (m + 1) x0 =
  turns.l1  m x0.1 ((List.length x0.1) : Int) (0 : Int) ([] : List (El TShare)) x0.1 x0.2 := by kernel_rfl
theorem turns.s1  (m : Nat) (x0 : List (El TShare)) (x1 : Int) (x2 : Int) (x3 : List (El TShare)) (x4 : List (El TShare)) (x5 : List Int) : turns.l1  (m + 1) x0 x1 x2 x3 x4 x5 =
  cond (decide (x2 < x1)) (
   test (decide ((0 : Int) ≤ x2)) (
    test (decide (x2 < ((List.length x0) : Int))) (
     test (decide ((0 : Int) ≤ x2)) (
      test (decide (x2 < ((List.length x5) : Int))) (
       test (decide (((List.length x3) + (List.length ((((rdEl TShare x0 (Int.toNat x2))).1, (rdEl (.int .i64) x5 (Int.toNat x2))) :: ([] : List (El TShare))))) ≤ (lim 16))) (
        turns.l1  m x0 x1 (IntKind.i64.wrap (x2 + (1 : Int))) (x3 ++ ((((rdEl TShare x0 (Int.toNat x2))).1, (rdEl (.int .i64) x5 (Int.toNat x2))) :: ([] : List (El TShare)))) x4 x5)))))) (
   some ((.c (.sl TShare x3)), [(102526, (.cells 47 [(.sl TShare x4), (.sref 13251330)])), (13251330, (.arr 3 (.int .i64) x5 false))])) := by kernel_rfl
theorem turns.run_eq  (m : Nat) (x0 : (El TWheel)) : run (turns.cfg ) Try.f13.ntmps Try.f13.results.toList m [.code (bodyOf Try.f13)] (enterO (ivAO 0 turns.ps (x0, ())) (bxAO 0 turns.ps (x0, ()))) = turns.go  m x0 := by kernel_rfl
theorem turns.ret  (hs : SpecsOK Try.prog (turns.specs ))  (x0 : (El TWheel)) {m : Nat} {r : IV} {b : List (Nat × Box)} (h : turns.go  m x0 = some (r, b)) : VE.ReturnsO Try.prog 13 (ivAO 0 turns.ps (x0, ())) (bxAO 0 turns.ps (x0, ())) r b :=
  returnsO_of_run (cfg := turns.cfg ) (cfgOK_of mixed tab_ok hs .nil) rfl Try.func13 (body_some (by kernel_rfl)) (Nat.le_of_ble_eq_true (by kernel_rfl)) (fun _ _ _ h => oids_mem h) ((turns.run_eq  m x0).trans h)
abbrev turns.Law : Prop := ∀ (x0 : (El TWheel)), turns.pre (x0, ()) = true → VE.ReturnsO Try.prog 13 (ivAO 0 turns.ps (x0, ())) (bxAO 0 turns.ps (x0, ())) (turns.res (x0, ())) (turns.back (x0, ()))
theorem turns.mkR (H : ∀ (x0 : (El TWheel)), turns.pre (x0, ()) = true → VE.ReturnsO Try.prog 13 (ivAO 0 turns.ps (x0, ())) (bxAO 0 turns.ps (x0, ())) (turns.res (x0, ())) (turns.back (x0, ()))) : SpecOKO Try.prog 13 turns.sp :=
  specO_ret Try.func13 (by kernel_rfl) (by kernel_rfl) fun (x : (El TWheel) × Unit) hx => H (x.1) hx
theorem turns.mk  (hs : SpecsOK Try.prog (turns.specs ))  (H : ∀ (x0 : (El TWheel)), turns.pre (x0, ()) = true → ∃ m, turns.go  m x0 = some (turns.res (x0, ()), turns.back (x0, ()))) : SpecOKO Try.prog 13 turns.sp :=
  turns.mkR fun x0 hx => (H x0 hx).elim fun _ hm => turns.ret  hs  x0 hm

/-! ### (*triage/round.Wheel).Turns -/
abbrev turnsZ.ps : List AK := [.z]
def turnsZ.pre : ElA turnsZ.ps → Bool := fun (x : Unit) => true
def turnsZ.rv : ElA turnsZ.ps → List RV := fun (x : Unit) => [.d ((.c (.sl TShare [])) )]
def turnsZ.res : ElA turnsZ.ps → IV := fun x => oneOrTup (rvIVs 0 (turnsZ.rv x))
def turnsZ.back : ElA turnsZ.ps → List (Nat × Box) := fun (x : Unit) => rvBxs 0 (turnsZ.rv x)
def turnsZ.sp : OSpec := spO turnsZ.ps turnsZ.pre turnsZ.res turnsZ.back
abbrev turnsZ.OK : Prop := SpecOKO Try.prog 13 turnsZ.sp
noncomputable def turnsZ.body : Code := bodyOf Try.f13
noncomputable def turnsZ.rs : List ResultVar := Try.f13.results.toList
def turnsZ.live : List (Nat × Live) := [(5, ⟨[(0, .plain), (3, .arr 42 TShare), (11, .sl TShare), (12, .plain), (13, .plain)], []⟩)]
noncomputable def turnsZ.specs  : List (Nat × (List Bool × ISpec)) := []
noncomputable def turnsZ.ospecs  : List (Nat × OS) := []
noncomputable def turnsZ.cfg  : Cfg := ⟨lkp tab, lkp (turnsZ.specs ), lkp turnsZ.live, ⟨lkp (turnsZ.ospecs ), oids 0 turnsZ.ps, some ([.sl TShare], []), false⟩⟩
noncomputable def turnsZ.go  (m : Nat)  : R := run (turnsZ.cfg ) 33 turnsZ.rs m [.code turnsZ.body] (enterO (ivAO 0 turnsZ.ps ()) (bxAO 0 turnsZ.ps ()))
theorem turnsZ.start  (m : Nat)  : turnsZ.go  (m + 1)  =
  some ((.c (.sl TShare ([] : List (El TShare)))), []) := by kernel_rfl
theorem turnsZ.run_eq  (m : Nat)  : run (turnsZ.cfg ) Try.f13.ntmps Try.f13.results.toList m [.code (bodyOf Try.f13)] (enterO (ivAO 0 turnsZ.ps ()) (bxAO 0 turnsZ.ps ())) = turnsZ.go  m  := by kernel_rfl
theorem turnsZ.ret  (hs : SpecsOK Try.prog (turnsZ.specs ))   {m : Nat} {r : IV} {b : List (Nat × Box)} (h : turnsZ.go  m  = some (r, b)) : VE.ReturnsO Try.prog 13 (ivAO 0 turnsZ.ps ()) (bxAO 0 turnsZ.ps ()) r b :=
  returnsO_of_run (cfg := turnsZ.cfg ) (cfgOK_of mixed tab_ok hs .nil) rfl Try.func13 (body_some (by kernel_rfl)) (Nat.le_of_ble_eq_true (by kernel_rfl)) (fun _ _ _ h => oids_mem h) ((turnsZ.run_eq  m ).trans h)
abbrev turnsZ.Law : Prop := ∀ (_ : Unit), turnsZ.pre () = true → VE.ReturnsO Try.prog 13 (ivAO 0 turnsZ.ps ()) (bxAO 0 turnsZ.ps ()) (turnsZ.res ()) (turnsZ.back ())
theorem turnsZ.mkR (H : ∀ (_ : Unit), turnsZ.pre () = true → VE.ReturnsO Try.prog 13 (ivAO 0 turnsZ.ps ()) (bxAO 0 turnsZ.ps ()) (turnsZ.res ()) (turnsZ.back ())) : SpecOKO Try.prog 13 turnsZ.sp :=
  specO_ret Try.func13 (by kernel_rfl) (by kernel_rfl) fun (x : Unit) hx => H () hx
theorem turnsZ.mk  (hs : SpecsOK Try.prog (turnsZ.specs ))  (H : ∀ (_ : Unit), turnsZ.pre () = true → ∃ m, turnsZ.go  m  = some (turnsZ.res (), turnsZ.back ())) : SpecOKO Try.prog 13 turnsZ.sp :=
  turnsZ.mkR fun _ hx => (H () hx).elim fun _ hm => turnsZ.ret  hs   hm

/-! ### (*triage/triageref10.Wheel).Next -/
abbrev nextR.ps : List AK := [.o 31 TWheelR [none, some 42], .d false (.sl TShare)]
def nextR.pre : ElA nextR.ps → Bool := fun (x : (El TWheelR) × (List (El TShare)) × Unit) => fits TWheelR (x.1) && (fits (.sl TShare) (x.2.1) && ((fun w _ => decide (List.map Prod.fst w.1 = List.map Prod.fst w.2)) x.1 x.2.1 && (true)))
def nextR.rv : ElA nextR.ps → List RV := fun (x : (El TWheelR) × (List (El TShare)) × Unit) => [.d ((fun w l => vi .i64 (nextRI w l)) x.1 x.2.1), .d ((fun w l => vb (mayRow l)) x.1 x.2.1)]
def nextR.res : ElA nextR.ps → IV := fun x => oneOrTup (rvIVs 0 (nextR.rv x))
def nextR.back : ElA nextR.ps → List (Nat × Box) := fun (x : (El TWheelR) × (List (El TShare)) × Unit) => rvBxs 0 (nextR.rv x) ++ objBx 0 31 TWheelR [none, some 42] ((fun w l => wheelRN w l) x.1 x.2.1)
def nextR.sp : OSpec := spO nextR.ps nextR.pre nextR.res nextR.back
abbrev nextR.OK : Prop := SpecOKO Try.prog 11 nextR.sp
noncomputable def nextR.body : Code := bodyOf Try.f11
noncomputable def nextR.rs : List ResultVar := Try.f11.results.toList
def nextR.live : List (Nat × Live) := [(18, ⟨[(0, .plain), (1, .sl TShare), (10, .plain), (11, .plain), (75, .sl TShare), (76, .plain), (77, .plain)], [(oid 0, [.sl TShare, .arr 42 TShare])]⟩), (12, ⟨[(0, .plain), (1, .sl TShare), (56, .sl TShare), (57, .plain), (58, .plain)], [(oid 0, [.sl TShare, .arr 42 TShare])]⟩), (5, ⟨[(0, .plain), (1, .sl TShare), (6, .plain), (26, .plain), (27, .plain)], [(oid 0, [.sl TShare, .arr 42 TShare])]⟩)]
noncomputable def nextR.specs  : List (Nat × (List Bool × ISpec)) := [(14, ([], mayRR.sp))]
noncomputable def nextR.ospecs  : List (Nat × OS) := []
noncomputable def nextR.cfg  : Cfg := ⟨lkp tab, lkp (nextR.specs ), lkp nextR.live, ⟨lkp (nextR.ospecs ), oids 0 nextR.ps, some ([.plain, .plain], [(oid 0, [.sl TShare, .arr 42 TShare])]), false⟩⟩
noncomputable def nextR.l1  (m : Nat) (x0 : List (El TShare)) (x1 : Bool) (x2 : Int) (x3 : Int) (x4 : List (El TShare)) (x5 : List (El TShare)) : R := run (nextR.cfg ) 168 nextR.rs m ((todoR 5 nextR.body []).getD []) ⟨ofList (.c .junk) [(0, (.c (.ref 102526 0))), (1, (.c (.sl TShare x0))), (6, (.c (.v (.bool x1)))), (26, (.c (.v (.int .i64 x2)))), (27, (.c (.v (.int .i64 x3))))], ofList none [(102526, some (.cells 31 [(.sl TShare x4), (.sref 13251330)])), (13251330, some (.arr 42 TShare x5 false))], ofList false [(102526, true), (13251330, true)]⟩
noncomputable def nextR.l2  (m : Nat) (x0 : List (El TShare)) (x1 : List (El TShare)) (x2 : Int) (x3 : Int) (x4 : List (El TShare)) (x5 : List (El TShare)) : R := run (nextR.cfg ) 168 nextR.rs m ((todoR 12 nextR.body []).getD []) ⟨ofList (.c .junk) [(0, (.c (.ref 102526 0))), (1, (.c (.sl TShare x0))), (56, (.c (.sl TShare x1))), (57, (.c (.v (.int .i64 x2)))), (58, (.c (.v (.int .i64 x3))))], ofList none [(102526, some (.cells 31 [(.sl TShare x4), (.sref 13251330)])), (13251330, some (.arr 42 TShare x5 false))], ofList false [(102526, true), (13251330, true)]⟩
noncomputable def nextR.l3  (m : Nat) (x0 : List (El TShare)) (x1 : Int) (x2 : Int) (x3 : List (El TShare)) (x4 : Int) (x5 : Int) (x6 : List (El TShare)) (x7 : List (El TShare)) : R := run (nextR.cfg ) 168 nextR.rs m ((todoR 18 nextR.body []).getD []) ⟨ofList (.c .junk) [(0, (.c (.ref 102526 0))), (1, (.c (.sl TShare x0))), (10, (.c (.v (.int .i64 x1)))), (11, (.c (.v (.int .i64 x2)))), (75, (.c (.sl TShare x3))), (76, (.c (.v (.int .i64 x4)))), (77, (.c (.v (.int .i64 x5))))], ofList none [(102526, some (.cells 31 [(.sl TShare x6), (.sref 13251330)])), (13251330, some (.arr 42 TShare x7 false))], ofList false [(102526, true), (13251330, true)]⟩
noncomputable def nextR.go  (m : Nat) (x0 : (El TWheelR)) (x1 : (List (El TShare))) : R := run (nextR.cfg ) 168 nextR.rs m [.code nextR.body] (enterO (ivAO 0 nextR.ps (x0, x1, ())) (bxAO 0 nextR.ps (x0, x1, ())))
theorem nextR.start  (m : Nat) (x0 : (El TWheelR)) (x1 : (List (El TShare))) : nextR.go  (m + 1) x0 x1 =
  test (mayRR.pre (x1, Unit.unit)) (
   cond (Bool.not (mayRow x1)) (
    some ((.tup [(.c (.v (.int .i64 (0 : Int)))), (.c (.v (.bool false)))]), [(102526, (.cells 31 [(.sl TShare x0.1), (.sref 13251330)])), (13251330, (.arr 42 TShare x0.2 false))])) (
    nextR.l1  m x1 (((List.length x1) : Int) == ((List.length x0.1) : Int)) ((List.length x1) : Int) (0 : Int) x0.1 x0.2)) := by kernel_rfl
theorem nextR.s1  (m : Nat) (x0 : List (El TShare)) (x1 : Bool) (x2 : Int) (x3 : Int) (x4 : List (El TShare)) (x5 : List (El TShare)) : nextR.l1  (m + 1) x0 x1 x2 x3 x4 x5 =
  cond (decide (x3 < x2)) (
   cond x1 (
    test (decide ((0 : Int) ≤ x3)) (
     test (decide (x3 < ((List.length x0) : Int))) (
      test (decide ((0 : Int) ≤ x3)) (
       test (decide (x3 < ((List.length x4) : Int))) (
        nextR.l1  m x0 ((((rdEl TShare x0 (Int.toNat x3))).1 == ((rdEl TShare x4 (Int.toNat x3))).1) && ((((rdEl TShare x0 (Int.toNat x3))).2 == ((rdEl TShare x4 (Int.toNat x3))).2) && true)) x2 (IntKind.i64.wrap (x3 + (1 : Int))) x4 x5))))) (
    nextR.l1  m x0 false x2 (IntKind.i64.wrap (x3 + (1 : Int))) x4 x5)) (
   cond (Bool.not x1) (
    test (decide ((List.length x0) ≤ (lim 16))) (
     nextR.l2  m x0 x0 ((List.length x0) : Int) (0 : Int) x0 ([] : List (El TShare)))) (
    nextR.l3  m x0 (-(1 : Int)) (0 : Int) x0 ((List.length x0) : Int) (0 : Int) x4 x5)) := by kernel_rfl
theorem nextR.s2  (m : Nat) (x0 : List (El TShare)) (x1 : List (El TShare)) (x2 : Int) (x3 : Int) (x4 : List (El TShare)) (x5 : List (El TShare)) : nextR.l2  (m + 1) x0 x1 x2 x3 x4 x5 =
  cond (decide (x3 < x2)) (
   test (decide ((0 : Int) ≤ x3)) (
    test (decide (x3 < ((List.length x1) : Int))) (
     test (decide (((List.length x5) + (List.length ((((rdEl TShare x1 (Int.toNat x3))).1, (0 : Int)) :: ([] : List (El TShare))))) ≤ (lim 16))) (
      nextR.l2  m x0 x1 x2 (IntKind.i64.wrap (x3 + (1 : Int))) x4 (x5 ++ ((((rdEl TShare x1 (Int.toNat x3))).1, (0 : Int)) :: ([] : List (El TShare)))))))) (
   nextR.l3  m x0 (-(1 : Int)) (0 : Int) x0 ((List.length x0) : Int) (0 : Int) x4 x5) := by kernel_rfl
theorem nextR.s3  (m : Nat) (x0 : List (El TShare)) (x1 : Int) (x2 : Int) (x3 : List (El TShare)) (x4 : Int) (x5 : Int) (x6 : List (El TShare)) (x7 : List (El TShare)) : nextR.l3  (m + 1) x0 x1 x2 x3 x4 x5 x6 x7 =
  cond (decide (x5 < x4)) (
   test (decide ((0 : Int) ≤ x5)) (
    test (decide (x5 < ((List.length x3) : Int))) (
     test (decide ((0 : Int) ≤ x5)) (
      test (decide (x5 < ((List.length x7) : Int))) (
       test (decide ((0 : Int) ≤ x5)) (
        test (decide (x5 < ((List.length x7) : Int))) (
         cond (decide (x1 < (0 : Int))) (
          nextR.l3  m x0 x5 (IntKind.i64.wrap (x2 + ((rdEl TShare x3 (Int.toNat x5))).2)) x3 x4 (IntKind.i64.wrap (x5 + (1 : Int))) x6 (List.set x7 (Int.toNat x5) (((rdEl TShare x7 (Int.toNat x5))).1, (IntKind.i64.wrap (((rdEl TShare x7 (Int.toNat x5))).2 + ((rdEl TShare x3 (Int.toNat x5))).2))))) (
          test (decide ((0 : Int) ≤ x5)) (
           test (decide (x5 < ((List.length (List.set x7 (Int.toNat x5) (((rdEl TShare x7 (Int.toNat x5))).1, (IntKind.i64.wrap (((rdEl TShare x7 (Int.toNat x5))).2 + ((rdEl TShare x3 (Int.toNat x5))).2))))) : Int))) (
            test (decide ((0 : Int) ≤ x1)) (
             test (decide (x1 < ((List.length (List.set x7 (Int.toNat x5) (((rdEl TShare x7 (Int.toNat x5))).1, (IntKind.i64.wrap (((rdEl TShare x7 (Int.toNat x5))).2 + ((rdEl TShare x3 (Int.toNat x5))).2))))) : Int))) (
              cond (decide (((rdEl TShare (List.set x7 (Int.toNat x5) (((rdEl TShare x7 (Int.toNat x5))).1, (IntKind.i64.wrap (((rdEl TShare x7 (Int.toNat x5))).2 + ((rdEl TShare x3 (Int.toNat x5))).2)))) (Int.toNat x5))).2 > ((rdEl TShare (List.set x7 (Int.toNat x5) (((rdEl TShare x7 (Int.toNat x5))).1, (IntKind.i64.wrap (((rdEl TShare x7 (Int.toNat x5))).2 + ((rdEl TShare x3 (Int.toNat x5))).2)))) (Int.toNat x1))).2)) (
               nextR.l3  m x0 x5 (IntKind.i64.wrap (x2 + ((rdEl TShare x3 (Int.toNat x5))).2)) x3 x4 (IntKind.i64.wrap (x5 + (1 : Int))) x6 (List.set x7 (Int.toNat x5) (((rdEl TShare x7 (Int.toNat x5))).1, (IntKind.i64.wrap (((rdEl TShare x7 (Int.toNat x5))).2 + ((rdEl TShare x3 (Int.toNat x5))).2))))) (
               test (decide ((0 : Int) ≤ x5)) (
                test (decide (x5 < ((List.length (List.set x7 (Int.toNat x5) (((rdEl TShare x7 (Int.toNat x5))).1, (IntKind.i64.wrap (((rdEl TShare x7 (Int.toNat x5))).2 + ((rdEl TShare x3 (Int.toNat x5))).2))))) : Int))) (
                 test (decide ((0 : Int) ≤ x1)) (
                  test (decide (x1 < ((List.length (List.set x7 (Int.toNat x5) (((rdEl TShare x7 (Int.toNat x5))).1, (IntKind.i64.wrap (((rdEl TShare x7 (Int.toNat x5))).2 + ((rdEl TShare x3 (Int.toNat x5))).2))))) : Int))) (
                   cond (((rdEl TShare (List.set x7 (Int.toNat x5) (((rdEl TShare x7 (Int.toNat x5))).1, (IntKind.i64.wrap (((rdEl TShare x7 (Int.toNat x5))).2 + ((rdEl TShare x3 (Int.toNat x5))).2)))) (Int.toNat x5))).2 == ((rdEl TShare (List.set x7 (Int.toNat x5) (((rdEl TShare x7 (Int.toNat x5))).1, (IntKind.i64.wrap (((rdEl TShare x7 (Int.toNat x5))).2 + ((rdEl TShare x3 (Int.toNat x5))).2)))) (Int.toNat x1))).2) (
                    test (decide ((0 : Int) ≤ x1)) (
                     test (decide (x1 < ((List.length x0) : Int))) (
                      cond (decide (((rdEl TShare x3 (Int.toNat x5))).1 < ((rdEl TShare x0 (Int.toNat x1))).1)) (
                       nextR.l3  m x0 x5 (IntKind.i64.wrap (x2 + ((rdEl TShare x3 (Int.toNat x5))).2)) x3 x4 (IntKind.i64.wrap (x5 + (1 : Int))) x6 (List.set x7 (Int.toNat x5) (((rdEl TShare x7 (Int.toNat x5))).1, (IntKind.i64.wrap (((rdEl TShare x7 (Int.toNat x5))).2 + ((rdEl TShare x3 (Int.toNat x5))).2))))) (
                       nextR.l3  m x0 x1 (IntKind.i64.wrap (x2 + ((rdEl TShare x3 (Int.toNat x5))).2)) x3 x4 (IntKind.i64.wrap (x5 + (1 : Int))) x6 (List.set x7 (Int.toNat x5) (((rdEl TShare x7 (Int.toNat x5))).1, (IntKind.i64.wrap (((rdEl TShare x7 (Int.toNat x5))).2 + ((rdEl TShare x3 (Int.toNat x5))).2)))))))) (
                    nextR.l3  m x0 x1 (IntKind.i64.wrap (x2 + ((rdEl TShare x3 (Int.toNat x5))).2)) x3 x4 (IntKind.i64.wrap (x5 + (1 : Int))) x6 (List.set x7 (Int.toNat x5) (((rdEl TShare x7 (Int.toNat x5))).1, (IntKind.i64.wrap (((rdEl TShare x7 (Int.toNat x5))).2 + ((rdEl TShare x3 (Int.toNat x5))).2)))))))))))))))))))))) (
   test (decide ((0 : Int) ≤ x1)) (
    test (decide (x1 < ((List.length x7) : Int))) (
     test (decide ((0 : Int) ≤ x1)) (
      test (decide (x1 < ((List.length x7) : Int))) (
       test (decide ((0 : Int) ≤ x1)) (
        test (decide (x1 < ((List.length x0) : Int))) (
         some ((.tup [(.c (.v (.int .i64 ((rdEl TShare x0 (Int.toNat x1))).1))), (.c (.v (.bool true)))]), [(102526, (.cells 31 [(.sl TShare x6), (.sref 13251330)])), (13251330, (.arr 42 TShare (List.set x7 (Int.toNat x1) (((rdEl TShare x7 (Int.toNat x1))).1, (IntKind.i64.wrap (((rdEl TShare x7 (Int.toNat x1))).2 - x2)))) false))])))))))) := by kernel_rfl
theorem nextR.run_eq  (m : Nat) (x0 : (El TWheelR)) (x1 : (List (El TShare))) : run (nextR.cfg ) Try.f11.ntmps Try.f11.results.toList m [.code (bodyOf Try.f11)] (enterO (ivAO 0 nextR.ps (x0, x1, ())) (bxAO 0 nextR.ps (x0, x1, ()))) = nextR.go  m x0 x1 := by kernel_rfl
theorem nextR.ret  (hs : SpecsOK Try.prog (nextR.specs ))  (x0 : (El TWheelR)) (x1 : (List (El TShare))) {m : Nat} {r : IV} {b : List (Nat × Box)} (h : nextR.go  m x0 x1 = some (r, b)) : VE.ReturnsO Try.prog 11 (ivAO 0 nextR.ps (x0, x1, ())) (bxAO 0 nextR.ps (x0, x1, ())) r b :=
  returnsO_of_run (cfg := nextR.cfg ) (cfgOK_of mixed tab_ok hs .nil) rfl Try.func11 (body_some (by kernel_rfl)) (Nat.le_of_ble_eq_true (by kernel_rfl)) (fun _ _ _ h => oids_mem h) ((nextR.run_eq  m x0 x1).trans h)
abbrev nextR.Law : Prop := ∀ (x0 : (El TWheelR)) (x1 : (List (El TShare))), nextR.pre (x0, x1, ()) = true → VE.ReturnsO Try.prog 11 (ivAO 0 nextR.ps (x0, x1, ())) (bxAO 0 nextR.ps (x0, x1, ())) (nextR.res (x0, x1, ())) (nextR.back (x0, x1, ()))
theorem nextR.mkR (H : ∀ (x0 : (El TWheelR)) (x1 : (List (El TShare))), nextR.pre (x0, x1, ()) = true → VE.ReturnsO Try.prog 11 (ivAO 0 nextR.ps (x0, x1, ())) (bxAO 0 nextR.ps (x0, x1, ())) (nextR.res (x0, x1, ())) (nextR.back (x0, x1, ()))) : SpecOKO Try.prog 11 nextR.sp :=
  specO_ret Try.func11 (by kernel_rfl) (by kernel_rfl) fun (x : (El TWheelR) × (List (El TShare)) × Unit) hx => H (x.1) (x.2.1) hx
theorem nextR.mk  (hs : SpecsOK Try.prog (nextR.specs ))  (H : ∀ (x0 : (El TWheelR)) (x1 : (List (El TShare))), nextR.pre (x0, x1, ()) = true → ∃ m, nextR.go  m x0 x1 = some (nextR.res (x0, x1, ()), nextR.back (x0, x1, ()))) : SpecOKO Try.prog 11 nextR.sp :=
  nextR.mkR fun x0 x1 hx => (H x0 x1 hx).elim fun _ hm => nextR.ret  hs  x0 x1 hm

/-! ### triage/triagelaw21.same -/
abbrev sameT.ps : List AK := [.d false (.sl TShare), .d false (.sl TShare)]
def sameT.pre : ElA sameT.ps → Bool := fun (x : (List (El TShare)) × (List (El TShare)) × Unit) => fits (.sl TShare) (x.1) && (fits (.sl TShare) (x.2.1) && (true))
def sameT.res : ElA sameT.ps → IV := fun (x : (List (El TShare)) × (List (El TShare)) × Unit) => (fun l m => vb (eqSh l m)) x.1 x.2.1
def sameT.sp : ISpec := spOf sameT.ps sameT.pre sameT.res
abbrev sameT.OK : Prop := SpecOK Try.prog 12 sameT.sp
noncomputable def sameT.body : Code := bodyOf Try.f12
noncomputable def sameT.rs : List ResultVar := Try.f12.results.toList
def sameT.live : List (Nat × Live) := [(4, ⟨[(0, .sl TShare), (1, .sl TShare), (12, .plain), (13, .plain)], []⟩)]
noncomputable def sameT.specs  : List (Nat × (List Bool × ISpec)) := []
noncomputable def sameT.ospecs  : List (Nat × OS) := []
noncomputable def sameT.cfg  : Cfg := ⟨lkp tab, lkp (sameT.specs ), lkp sameT.live, ⟨lkp (sameT.ospecs ), [], none, false⟩⟩
noncomputable def sameT.l1  (m : Nat) (x0 : List (El TShare)) (x1 : List (El TShare)) (x2 : Int) (x3 : Int) : R := run (sameT.cfg ) 26 sameT.rs m ((todoR 4 sameT.body []).getD []) ⟨ofList (.c .junk) [(0, (.c (.sl TShare x0))), (1, (.c (.sl TShare x1))), (12, (.c (.v (.int .i64 x2)))), (13, (.c (.v (.int .i64 x3))))], ofList none [], ofList false []⟩
noncomputable def sameT.go  (m : Nat) (x0 : (List (El TShare))) (x1 : (List (El TShare))) : R := run (sameT.cfg ) 26 sameT.rs m [.code sameT.body] (enter (ivA sameT.ps (x0, x1, ())))
theorem sameT.start  (m : Nat) (x0 : (List (El TShare))) (x1 : (List (El TShare))) : sameT.go  (m + 1) x0 x1 =
  cond (bne ((List.length x0) : Int) ((List.length x1) : Int)) (
   some ((.c (.v (.bool false))), [])) (
   sameT.l1  m x0 x1 ((List.length x0) : Int) (0 : Int)) := by kernel_rfl
theorem sameT.s1  (m : Nat) (x0 : List (El TShare)) (x1 : List (El TShare)) (x2 : Int) (x3 : Int) : sameT.l1  (m + 1) x0 x1 x2 x3 =
  cond (decide (x3 < x2)) (
   test (decide ((0 : Int) ≤ x3)) (
    test (decide (x3 < ((List.length x0) : Int))) (
     test (decide ((0 : Int) ≤ x3)) (
      test (decide (x3 < ((List.length x1) : Int))) (
       cond (Bool.not ((((rdEl TShare x0 (Int.toNat x3))).1 == ((rdEl TShare x1 (Int.toNat x3))).1) && ((((rdEl TShare x0 (Int.toNat x3))).2 == ((rdEl TShare x1 (Int.toNat x3))).2) && true))) (
        some ((.c (.v (.bool false))), [])) (
        sameT.l1  m x0 x1 x2 (IntKind.i64.wrap (x3 + (1 : Int))))))))) (
   some ((.c (.v (.bool true))), [])) := by kernel_rfl
theorem sameT.run_eq  (m : Nat) (x0 : (List (El TShare))) (x1 : (List (El TShare))) : run (sameT.cfg ) Try.f12.ntmps Try.f12.results.toList m [.code (bodyOf Try.f12)] (enter (ivA sameT.ps (x0, x1, ()))) = sameT.go  m x0 x1 := by kernel_rfl
theorem sameT.ret  (hs : SpecsOK Try.prog (sameT.specs ))  (x0 : (List (El TShare))) (x1 : (List (El TShare))) {m : Nat} {r : IV} (h : sameT.go  m x0 x1 = some (r, [])) : VE.Returns Try.prog 12 (ivA sameT.ps (x0, x1, ())) r :=
  returns_of_run (cfg := sameT.cfg ) (cfgOK_of mixed tab_ok hs .nil) rfl Try.func12 (body_some (by kernel_rfl)) (Nat.le_of_ble_eq_true (by kernel_rfl)) ((sameT.run_eq  m x0 x1).trans h)
abbrev sameT.Law : Prop := ∀ (x0 : (List (El TShare))) (x1 : (List (El TShare))), sameT.pre (x0, x1, ()) = true → VE.Returns Try.prog 12 (ivA sameT.ps (x0, x1, ())) (sameT.res (x0, x1, ()))
theorem sameT.mkR (H : ∀ (x0 : (List (El TShare))) (x1 : (List (El TShare))), sameT.pre (x0, x1, ()) = true → VE.Returns Try.prog 12 (ivA sameT.ps (x0, x1, ())) (sameT.res (x0, x1, ()))) : SpecOK Try.prog 12 sameT.sp :=
  specOf_ret Try.func12 (by kernel_rfl) (by kernel_rfl) fun (x : (List (El TShare)) × (List (El TShare)) × Unit) hx => H (x.1) (x.2.1) hx
theorem sameT.mk  (hs : SpecsOK Try.prog (sameT.specs ))  (H : ∀ (x0 : (List (El TShare))) (x1 : (List (El TShare))), sameT.pre (x0, x1, ()) = true → ∃ m, sameT.go  m x0 x1 = some (sameT.res (x0, x1, ()), [])) : SpecOK Try.prog 12 sameT.sp :=
  sameT.mkR fun x0 x1 hx => (H x0 x1 hx).elim fun _ hm => sameT.ret  hs  x0 x1 hm

/-! ### triage/triagelaw21.awake -/
abbrev awake.ps : List AK := []
def awake.pre : ElA awake.ps → Bool := fun (x : Unit) => true
def awake.res : ElA awake.ps → IV := fun (x : Unit) => (vb true) 
def awake.sp : ISpec := spOf awake.ps awake.pre awake.res
abbrev awake.OK : Prop := SpecOK Try.prog 8 awake.sp
noncomputable def awake.body : Code := bodyOf Try.f8
noncomputable def awake.rs : List ResultVar := Try.f8.results.toList
def awake.live : List (Nat × Live) := []
noncomputable def awake.specs  : List (Nat × (List Bool × ISpec)) := []
noncomputable def awake.ospecs  : List (Nat × OS) := [(9, ⟨[], [], new.sp⟩), (10, ⟨[some (.obj [.sl TShare, .arr 3 (.int .i64)])], [], nextW.sp⟩), (13, ⟨[some (.obj [.sl TShare, .arr 3 (.int .i64)])], [], turns.sp⟩)]
noncomputable def awake.cfg  : Cfg := ⟨lkp tab, lkp (awake.specs ), lkp awake.live, ⟨lkp (awake.ospecs ), [], none, false⟩⟩
noncomputable def awake.go  (m : Nat)  : R := run (awake.cfg ) 61 awake.rs m [.code awake.body] (enter (ivA awake.ps ()))
theorem awake.start  (m : Nat)  : awake.go  (m + 1)  =
  some ((.c (.v (.bool (((List.length (turnsOf ((wheelN ((wheelN ((wheelN ((wheelN (([] : List (El TShare)), ([] : List Int)) (((7 : Int), (2 : Int)) :: (((9 : Int), (1 : Int)) :: ([] : List (El TShare)))))) (((7 : Int), (2 : Int)) :: (((9 : Int), (1 : Int)) :: ([] : List (El TShare)))))) (((7 : Int), (2 : Int)) :: (((9 : Int), (1 : Int)) :: ([] : List (El TShare)))))) ([] : List (El TShare)))).1 ((wheelN ((wheelN ((wheelN ((wheelN (([] : List (El TShare)), ([] : List Int)) (((7 : Int), (2 : Int)) :: (((9 : Int), (1 : Int)) :: ([] : List (El TShare)))))) (((7 : Int), (2 : Int)) :: (((9 : Int), (1 : Int)) :: ([] : List (El TShare)))))) (((7 : Int), (2 : Int)) :: (((9 : Int), (1 : Int)) :: ([] : List (El TShare)))))) ([] : List (El TShare)))).2)) : Int) == (2 : Int))))), []) := by kernel_rfl
theorem awake.run_eq  (m : Nat)  : run (awake.cfg ) Try.f8.ntmps Try.f8.results.toList m [.code (bodyOf Try.f8)] (enter (ivA awake.ps ())) = awake.go  m  := by kernel_rfl
theorem awake.ret  (hs : SpecsOK Try.prog (awake.specs )) (ho : OSpecsOK Try.prog (awake.ospecs ))  {m : Nat} {r : IV} (h : awake.go  m  = some (r, [])) : VE.Returns Try.prog 8 (ivA awake.ps ()) r :=
  returns_of_run (cfg := awake.cfg ) (cfgOK_of mixed tab_ok hs ho) rfl Try.func8 (body_some (by kernel_rfl)) (Nat.le_of_ble_eq_true (by kernel_rfl)) ((awake.run_eq  m ).trans h)
abbrev awake.Law : Prop := ∀ (_ : Unit), awake.pre () = true → VE.Returns Try.prog 8 (ivA awake.ps ()) (awake.res ())
theorem awake.mkR (H : ∀ (_ : Unit), awake.pre () = true → VE.Returns Try.prog 8 (ivA awake.ps ()) (awake.res ())) : SpecOK Try.prog 8 awake.sp :=
  specOf_ret Try.func8 (by kernel_rfl) (by kernel_rfl) fun (x : Unit) hx => H () hx
theorem awake.mk  (hs : SpecsOK Try.prog (awake.specs )) (ho : OSpecsOK Try.prog (awake.ospecs )) (H : ∀ (_ : Unit), awake.pre () = true → ∃ m, awake.go  m  = some (awake.res (), [])) : SpecOK Try.prog 8 awake.sp :=
  awake.mkR fun _ hx => (H () hx).elim fun _ hm => awake.ret  hs ho  hm

/-! ### triage/triagelaw21.RoundPlays -/
abbrev lPlays.ps : List AK := [.d false (.sl (.sl TShare)), .d false (.sl (.int .i64))]
def lPlays.pre : ElA lPlays.ps → Bool := fun (x : (List (List (El TShare))) × (List Int) × Unit) => fits (.sl (.sl TShare)) (x.1) && (fits (.sl (.int .i64)) (x.2.1) && (true))
def lPlays.res : ElA lPlays.ps → IV := fun (x : (List (List (El TShare))) × (List Int) × Unit) => (fun _ _ => vb true) x.1 x.2.1
def lPlays.sp : ISpec := spOf lPlays.ps lPlays.pre lPlays.res
abbrev lPlays.OK : Prop := SpecOK Try.prog 3 lPlays.sp
noncomputable def lPlays.body : Code := bodyOf Try.f3
noncomputable def lPlays.rs : List ResultVar := Try.f3.results.toList
def lPlays.live : List (Nat × Live) := [(13, ⟨[(1, .sl (.int .i64)), (5, .plain), (6, .plain), (8, .sl TShare), (21, .sl (.sl TShare)), (22, .plain), (23, .plain), (43, .plain), (44, .plain)], [(1541, [.sl TShare, .arr 42 TShare]), (46145536, [.sl TShare, .arr 3 (.int .i64)])]⟩), (5, ⟨[(1, .sl (.int .i64)), (5, .plain), (6, .plain), (21, .sl (.sl TShare)), (22, .plain), (23, .plain)], [(1541, [.sl TShare, .arr 42 TShare]), (46145536, [.sl TShare, .arr 3 (.int .i64)])]⟩)]
noncomputable def lPlays.specs  : List (Nat × (List Bool × ISpec)) := [(8, ([], awake.sp)), (12, ([], sameT.sp))]
noncomputable def lPlays.ospecs  : List (Nat × OS) := [(9, ⟨[], [], new.sp⟩), (10, ⟨[some (.obj [.sl TShare, .arr 3 (.int .i64)])], [], nextW.sp⟩), (13, ⟨[some (.obj [.sl TShare, .arr 3 (.int .i64)])], [], turns.sp⟩), (11, ⟨[some (.obj [.sl TShare, .arr 42 TShare])], [], nextR.sp⟩)]
noncomputable def lPlays.cfg  : Cfg := ⟨lkp tab, lkp (lPlays.specs ), lkp lPlays.live, ⟨lkp (lPlays.ospecs ), [], none, false⟩⟩
noncomputable def lPlays.l1  (m : Nat) (x0 : List Int) (x1 : List (List (El TShare))) (x2 : Int) (x3 : Int) (x4 : List (El TShare)) (x5 : List (El TShare)) (x6 : List (El TShare)) (x7 : List Int) : R := run (lPlays.cfg ) 79 lPlays.rs m ((todoR 5 lPlays.body []).getD []) ⟨ofList (.c .junk) [(1, (.c (.sl (.int .i64) x0))), (5, (.c (.ref 46145536 0))), (6, (.c (.ref 1541 0))), (21, (.c (.sl (.sl TShare) x1))), (22, (.c (.v (.int .i64 x2)))), (23, (.c (.v (.int .i64 x3))))], ofList none [(1541, some (.cells 31 [(.sl TShare x4), (.sref 325250)])), (325250, some (.arr 42 TShare x5 false)), (46145536, some (.cells 47 [(.sl TShare x6), (.sref 5906756610)])), (5906756610, some (.arr 3 (.int .i64) x7 false))], ofList false [(1541, true), (325250, true), (46145536, true), (5906756610, true)]⟩
noncomputable def lPlays.l2  (m : Nat) (x0 : List Int) (x1 : List (El TShare)) (x2 : List (List (El TShare))) (x3 : Int) (x4 : Int) (x5 : Int) (x6 : Int) (x7 : List (El TShare)) (x8 : List (El TShare)) (x9 : List (El TShare)) (x10 : List Int) : R := run (lPlays.cfg ) 79 lPlays.rs m ((todoR 13 lPlays.body []).getD []) ⟨ofList (.c .junk) [(1, (.c (.sl (.int .i64) x0))), (5, (.c (.ref 46145536 0))), (6, (.c (.ref 1541 0))), (8, (.c (.sl TShare x1))), (21, (.c (.sl (.sl TShare) x2))), (22, (.c (.v (.int .i64 x3)))), (23, (.c (.v (.int .i64 x4)))), (43, (.c (.v (.int .i64 x5)))), (44, (.c (.v (.int .i64 x6))))], ofList none [(1541, some (.cells 31 [(.sl TShare x7), (.sref 325250)])), (325250, some (.arr 42 TShare x8 false)), (46145536, some (.cells 47 [(.sl TShare x9), (.sref 5906756610)])), (5906756610, some (.arr 3 (.int .i64) x10 false))], ofList false [(1541, true), (325250, true), (46145536, true), (5906756610, true)]⟩
noncomputable def lPlays.go  (m : Nat) (x0 : (List (List (El TShare)))) (x1 : (List Int)) : R := run (lPlays.cfg ) 79 lPlays.rs m [.code lPlays.body] (enter (ivA lPlays.ps (x0, x1, ())))
theorem lPlays.start  (m : Nat) (x0 : (List (List (El TShare)))) (x1 : (List Int)) : lPlays.go  (m + 1) x0 x1 =
  cond (decide (((List.length x0) : Int) > (20 : Int))) (
   some ((.c (.v (.bool true))), [])) (
   lPlays.l1  m x1 x0 ((List.length x0) : Int) (0 : Int) ([] : List (El TShare)) ([] : List (El TShare)) ([] : List (El TShare)) ([] : List Int)) := by kernel_rfl
theorem lPlays.s1  (m : Nat) (x0 : List Int) (x1 : List (List (El TShare))) (x2 : Int) (x3 : Int) (x4 : List (El TShare)) (x5 : List (El TShare)) (x6 : List (El TShare)) (x7 : List Int) : lPlays.l1  (m + 1) x0 x1 x2 x3 x4 x5 x6 x7 =
  cond (decide (x3 < x2)) (
   test (decide ((0 : Int) ≤ x3)) (
    test (decide (x3 < ((List.length x1) : Int))) (
     cond (decide (x3 < ((List.length x0) : Int))) (
      test (decide ((0 : Int) ≤ x3)) (
       test (decide (x3 < ((List.length x0) : Int))) (
        cond (decide (((List.length (rdEl (.sl TShare) x1 (Int.toNat x3))) : Int) > (80 : Int))) (
         some ((.c (.v (.bool true))), [])) (
         lPlays.l2  m x0 (rdEl (.sl TShare) x1 (Int.toNat x3)) x1 x2 x3 (IntKind.i64.wrap (Int.tmod (IntKind.u64.wrap (rdEl (.int .i64) x0 (Int.toNat x3))) (30 : Int))) (0 : Int) x4 x5 x6 x7)))) (
      cond (decide (((List.length (rdEl (.sl TShare) x1 (Int.toNat x3))) : Int) > (80 : Int))) (
       some ((.c (.v (.bool true))), [])) (
       lPlays.l2  m x0 (rdEl (.sl TShare) x1 (Int.toNat x3)) x1 x2 x3 (1 : Int) (0 : Int) x4 x5 x6 x7))))) (
   some ((.c (.v (.bool true))), [])) := by kernel_rfl
theorem lPlays.s2  (m : Nat) (x0 : List Int) (x1 : List (El TShare)) (x2 : List (List (El TShare))) (x3 : Int) (x4 : Int) (x5 : Int) (x6 : Int) (x7 : List (El TShare)) (x8 : List (El TShare)) (x9 : List (El TShare)) (x10 : List Int) : lPlays.l2  (m + 1) x0 x1 x2 x3 x4 x5 x6 x7 x8 x9 x10 =
  cond (decide (x6 < x5)) (
   test (nextW.pre ((x9, x10), (x1, Unit.unit))) (
    test (nextR.pre ((x7, x8), (x1, Unit.unit))) (
     cond (bne (nextI (x9, x10) x1) (nextRI (x7, x8) x1)) (
      some ((.c (.v (.bool false))), [])) (
      cond (Bool.not ((mayRow x1) == (mayRow x1))) (
       some ((.c (.v (.bool false))), [])) (
       test (turns.pre (((wheelN (x9, x10) x1)), Unit.unit)) (
        test (sameT.pre ((turnsOf ((wheelN (x9, x10) x1)).1 ((wheelN (x9, x10) x1)).2), (((wheelRN (x7, x8) x1)).2, Unit.unit))) (
         cond (Bool.not (eqSh (turnsOf ((wheelN (x9, x10) x1)).1 ((wheelN (x9, x10) x1)).2) ((wheelRN (x7, x8) x1)).2)) (
          some ((.c (.v (.bool false))), [])) (
          lPlays.l2  m x0 x1 x2 x3 x4 x5 (IntKind.i64.wrap (x6 + (1 : Int))) ((wheelRN (x7, x8) x1)).1 ((wheelRN (x7, x8) x1)).2 ((wheelN (x9, x10) x1)).1 ((wheelN (x9, x10) x1)).2)))))))) (
   lPlays.l1  m x0 x2 x3 (IntKind.i64.wrap (x4 + (1 : Int))) x7 x8 x9 x10) := by kernel_rfl
theorem lPlays.run_eq  (m : Nat) (x0 : (List (List (El TShare)))) (x1 : (List Int)) : run (lPlays.cfg ) Try.f3.ntmps Try.f3.results.toList m [.code (bodyOf Try.f3)] (enter (ivA lPlays.ps (x0, x1, ()))) = lPlays.go  m x0 x1 := by kernel_rfl
theorem lPlays.ret  (hs : SpecsOK Try.prog (lPlays.specs )) (ho : OSpecsOK Try.prog (lPlays.ospecs )) (x0 : (List (List (El TShare)))) (x1 : (List Int)) {m : Nat} {r : IV} (h : lPlays.go  m x0 x1 = some (r, [])) : VE.Returns Try.prog 3 (ivA lPlays.ps (x0, x1, ())) r :=
  returns_of_run (cfg := lPlays.cfg ) (cfgOK_of mixed tab_ok hs ho) rfl Try.func3 (body_some (by kernel_rfl)) (Nat.le_of_ble_eq_true (by kernel_rfl)) ((lPlays.run_eq  m x0 x1).trans h)
abbrev lPlays.Law : Prop := ∀ (x0 : (List (List (El TShare)))) (x1 : (List Int)), lPlays.pre (x0, x1, ()) = true → VE.Returns Try.prog 3 (ivA lPlays.ps (x0, x1, ())) (lPlays.res (x0, x1, ()))
theorem lPlays.mkR (H : ∀ (x0 : (List (List (El TShare)))) (x1 : (List Int)), lPlays.pre (x0, x1, ()) = true → VE.Returns Try.prog 3 (ivA lPlays.ps (x0, x1, ())) (lPlays.res (x0, x1, ()))) : SpecOK Try.prog 3 lPlays.sp :=
  specOf_ret Try.func3 (by kernel_rfl) (by kernel_rfl) fun (x : (List (List (El TShare))) × (List Int) × Unit) hx => H (x.1) (x.2.1) hx
theorem lPlays.mk  (hs : SpecsOK Try.prog (lPlays.specs )) (ho : OSpecsOK Try.prog (lPlays.ospecs )) (H : ∀ (x0 : (List (List (El TShare)))) (x1 : (List Int)), lPlays.pre (x0, x1, ()) = true → ∃ m, lPlays.go  m x0 x1 = some (lPlays.res (x0, x1, ()), [])) : SpecOK Try.prog 3 lPlays.sp :=
  lPlays.mkR fun x0 x1 hx => (H x0 x1 hx).elim fun _ hm => lPlays.ret  hs ho x0 x1 hm

/-! ### triage/triagelaw21.RoundNil -/
abbrev lNil.ps : List AK := [.d false (.sl TShare)]
def lNil.pre : ElA lNil.ps → Bool := fun (x : (List (El TShare)) × Unit) => fits (.sl TShare) (x.1) && (true)
def lNil.res : ElA lNil.ps → IV := fun (x : (List (El TShare)) × Unit) => (fun _ => vb true) x.1
def lNil.sp : ISpec := spOf lNil.ps lNil.pre lNil.res
abbrev lNil.OK : Prop := SpecOK Try.prog 6 lNil.sp
noncomputable def lNil.body : Code := bodyOf Try.f6
noncomputable def lNil.rs : List ResultVar := Try.f6.results.toList
def lNil.live : List (Nat × Live) := []
noncomputable def lNil.specs  : List (Nat × (List Bool × ISpec)) := [(8, ([], awake.sp)), (12, ([], sameT.sp)), (14, ([], mayRR.sp))]
noncomputable def lNil.ospecs  : List (Nat × OS) := [(9, ⟨[], [], new.sp⟩), (10, ⟨[some (.obj [.sl TShare, .arr 3 (.int .i64)])], [], (orO nextW.ps nextW.pre nextW.res nextW.back nextZ.sp)⟩), (13, ⟨[some (.obj [.sl TShare, .arr 3 (.int .i64)])], [], (orO turns.ps turns.pre turns.res turns.back turnsZ.sp)⟩)]
noncomputable def lNil.cfg  : Cfg := ⟨lkp tab, lkp (lNil.specs ), lkp lNil.live, ⟨lkp (lNil.ospecs ), [], none, false⟩⟩
noncomputable def lNil.go  (m : Nat) (x0 : (List (El TShare))) : R := run (lNil.cfg ) 66 lNil.rs m [.code lNil.body] (enter (ivA lNil.ps (x0, ())))
theorem lNil.start  (m : Nat) (x0 : (List (El TShare))) : lNil.go  (m + 1) x0 =
  cond (decide (((List.length x0) : Int) > (80 : Int))) (
   some ((.c (.v (.bool true))), [])) (
   test (nextZ.pre (x0, Unit.unit)) (
    test (nextW.pre (((wheelN (([] : List (El TShare)), ([] : List Int)) (((1 : Int), (2 : Int)) :: (((2 : Int), (3 : Int)) :: ([] : List (El TShare)))))), (x0, Unit.unit))) (
     test (mayRR.pre (x0, Unit.unit)) (
      cond ((mayRow x0) == (mayRow x0)) (
       cond (mayRow x0) (
        some ((.c (.v (.bool true))), [])) (
        test (turns.pre (((wheelN ((wheelN (([] : List (El TShare)), ([] : List Int)) (((1 : Int), (2 : Int)) :: (((2 : Int), (3 : Int)) :: ([] : List (El TShare)))))) x0)), Unit.unit)) (
         test (sameT.pre ((turnsOf ((wheelN ((wheelN (([] : List (El TShare)), ([] : List Int)) (((1 : Int), (2 : Int)) :: (((2 : Int), (3 : Int)) :: ([] : List (El TShare)))))) x0)).1 ((wheelN ((wheelN (([] : List (El TShare)), ([] : List Int)) (((1 : Int), (2 : Int)) :: (((2 : Int), (3 : Int)) :: ([] : List (El TShare)))))) x0)).2), ((turnsOf ((wheelN (([] : List (El TShare)), ([] : List Int)) (((1 : Int), (2 : Int)) :: (((2 : Int), (3 : Int)) :: ([] : List (El TShare)))))).1 ((wheelN (([] : List (El TShare)), ([] : List Int)) (((1 : Int), (2 : Int)) :: (((2 : Int), (3 : Int)) :: ([] : List (El TShare)))))).2), Unit.unit))) (
          cond (eqSh (turnsOf ((wheelN ((wheelN (([] : List (El TShare)), ([] : List Int)) (((1 : Int), (2 : Int)) :: (((2 : Int), (3 : Int)) :: ([] : List (El TShare)))))) x0)).1 ((wheelN ((wheelN (([] : List (El TShare)), ([] : List Int)) (((1 : Int), (2 : Int)) :: (((2 : Int), (3 : Int)) :: ([] : List (El TShare)))))) x0)).2) (turnsOf ((wheelN (([] : List (El TShare)), ([] : List Int)) (((1 : Int), (2 : Int)) :: (((2 : Int), (3 : Int)) :: ([] : List (El TShare)))))).1 ((wheelN (([] : List (El TShare)), ([] : List Int)) (((1 : Int), (2 : Int)) :: (((2 : Int), (3 : Int)) :: ([] : List (El TShare)))))).2)) (
           some ((.c (.v (.bool true))), [])) (
           some ((.c (.v (.bool false))), [])))))) (
       some ((.c (.v (.bool false))), [])))))) := by kernel_rfl
theorem lNil.run_eq  (m : Nat) (x0 : (List (El TShare))) : run (lNil.cfg ) Try.f6.ntmps Try.f6.results.toList m [.code (bodyOf Try.f6)] (enter (ivA lNil.ps (x0, ()))) = lNil.go  m x0 := by kernel_rfl
theorem lNil.ret  (hs : SpecsOK Try.prog (lNil.specs )) (ho : OSpecsOK Try.prog (lNil.ospecs )) (x0 : (List (El TShare))) {m : Nat} {r : IV} (h : lNil.go  m x0 = some (r, [])) : VE.Returns Try.prog 6 (ivA lNil.ps (x0, ())) r :=
  returns_of_run (cfg := lNil.cfg ) (cfgOK_of mixed tab_ok hs ho) rfl Try.func6 (body_some (by kernel_rfl)) (Nat.le_of_ble_eq_true (by kernel_rfl)) ((lNil.run_eq  m x0).trans h)
abbrev lNil.Law : Prop := ∀ (x0 : (List (El TShare))), lNil.pre (x0, ()) = true → VE.Returns Try.prog 6 (ivA lNil.ps (x0, ())) (lNil.res (x0, ()))
theorem lNil.mkR (H : ∀ (x0 : (List (El TShare))), lNil.pre (x0, ()) = true → VE.Returns Try.prog 6 (ivA lNil.ps (x0, ())) (lNil.res (x0, ()))) : SpecOK Try.prog 6 lNil.sp :=
  specOf_ret Try.func6 (by kernel_rfl) (by kernel_rfl) fun (x : (List (El TShare)) × Unit) hx => H (x.1) hx
theorem lNil.mk  (hs : SpecsOK Try.prog (lNil.specs )) (ho : OSpecsOK Try.prog (lNil.ospecs )) (H : ∀ (x0 : (List (El TShare))), lNil.pre (x0, ()) = true → ∃ m, lNil.go  m x0 = some (lNil.res (x0, ()), [])) : SpecOK Try.prog 6 lNil.sp :=
  lNil.mkR fun x0 hx => (H x0 hx).elim fun _ hm => lNil.ret  hs ho x0 hm

/-! ### triage/triagelaw21.RoundAnew -/
abbrev lAnew.ps : List AK := [.d false (.sl (.int .i64)), .d false (.sl (.int .i64)), .d false (.int .i64)]
def lAnew.pre : ElA lAnew.ps → Bool := fun (x : (List Int) × (List Int) × Int × Unit) => fits (.sl (.int .i64)) (x.1) && (fits (.sl (.int .i64)) (x.2.1) && (fits (.int .i64) (x.2.2.1) && (true)))
def lAnew.res : ElA lAnew.ps → IV := fun (x : (List Int) × (List Int) × Int × Unit) => (fun _ _ _ => vb true) x.1 x.2.1 x.2.2.1
def lAnew.sp : ISpec := spOf lAnew.ps lAnew.pre lAnew.res
abbrev lAnew.OK : Prop := SpecOK Try.prog 7 lAnew.sp
noncomputable def lAnew.body : Code := bodyOf Try.f7
noncomputable def lAnew.rs : List ResultVar := Try.f7.results.toList
def lAnew.live : List (Nat × Live) := [(34, ⟨[(7, .sl TShare), (12, .plain), (13, .arr 3 (.int .i64)), (128, .plain), (129, .plain)], [(100671488, [.sl TShare, .arr 3 (.int .i64)])]⟩), (24, ⟨[(2, .plain), (7, .sl TShare), (12, .plain), (13, .arr 3 (.int .i64)), (93, .sl TShare), (94, .plain), (95, .plain)], [(100671488, [.sl TShare, .arr 3 (.int .i64)])]⟩), (19, ⟨[(2, .plain), (7, .sl TShare), (12, .plain), (13, .arr 3 (.int .i64)), (79, .plain), (80, .plain)], [(100671488, [.sl TShare, .arr 3 (.int .i64)])]⟩), (8, ⟨[(0, .sl (.int .i64)), (1, .sl (.int .i64)), (2, .plain), (7, .arr 39 TShare), (8, .plain), (9, .plain), (40, .sl (.int .i64)), (41, .plain), (42, .plain), (49, .sl (.int .i64)), (50, .plain), (51, .plain)], []⟩), (5, ⟨[(0, .sl (.int .i64)), (1, .sl (.int .i64)), (2, .plain), (7, .arr 39 TShare), (40, .sl (.int .i64)), (41, .plain), (42, .plain)], []⟩)]
noncomputable def lAnew.specs  : List (Nat × (List Bool × ISpec)) := [(8, ([], awake.sp))]
noncomputable def lAnew.ospecs  : List (Nat × OS) := [(9, ⟨[], [], new.sp⟩), (10, ⟨[some (.obj [.sl TShare, .arr 3 (.int .i64)])], [], nextW.sp⟩)]
noncomputable def lAnew.cfg  : Cfg := ⟨lkp tab, lkp (lAnew.specs ), lkp lAnew.live, ⟨lkp (lAnew.ospecs ), [], none, false⟩⟩
noncomputable def lAnew.l1  (m : Nat) (x0 : List Int) (x1 : List Int) (x2 : Int) (x3 : List Int) (x4 : Int) (x5 : Int) (x6 : List (El TShare)) : R := run (lAnew.cfg ) 150 lAnew.rs m ((todoR 5 lAnew.body []).getD []) ⟨ofList (.c .junk) [(0, (.c (.sl (.int .i64) x0))), (1, (.c (.sl (.int .i64) x1))), (2, (.c (.v (.int .i64 x2)))), (7, (.c (.sref 1022))), (40, (.c (.sl (.int .i64) x3))), (41, (.c (.v (.int .i64 x4)))), (42, (.c (.v (.int .i64 x5))))], ofList none [(1022, some (.arr 39 TShare x6 false))], ofList false [(1022, true)]⟩
noncomputable def lAnew.l2  (m : Nat) (x0 : List Int) (x1 : List Int) (x2 : Int) (x3 : Int) (x4 : Int) (x5 : List Int) (x6 : Int) (x7 : Int) (x8 : List Int) (x9 : Int) (x10 : Int) (x11 : List (El TShare)) : R := run (lAnew.cfg ) 150 lAnew.rs m ((todoR 8 lAnew.body []).getD []) ⟨ofList (.c .junk) [(0, (.c (.sl (.int .i64) x0))), (1, (.c (.sl (.int .i64) x1))), (2, (.c (.v (.int .i64 x2)))), (7, (.c (.sref 1022))), (8, (.c (.v (.int .i64 x3)))), (9, (.c (.v (.int .i64 x4)))), (40, (.c (.sl (.int .i64) x5))), (41, (.c (.v (.int .i64 x6)))), (42, (.c (.v (.int .i64 x7)))), (49, (.c (.sl (.int .i64) x8))), (50, (.c (.v (.int .i64 x9)))), (51, (.c (.v (.int .i64 x10))))], ofList none [(1022, some (.arr 39 TShare x11 false))], ofList false [(1022, true)]⟩
noncomputable def lAnew.l3  (m : Nat) (x0 : Int) (x1 : List (El TShare)) (x2 : Int) (x3 : Int) (x4 : List Int) (x5 : List (El TShare)) (x6 : List Int) : R := run (lAnew.cfg ) 150 lAnew.rs m ((todoR 19 lAnew.body []).getD []) ⟨ofList (.c .junk) [(2, (.c (.v (.int .i64 x0)))), (7, (.c (.sl TShare x1))), (12, (.c (.ref 100671488 0))), (13, (.c (.sref 1790))), (79, (.c (.v (.int .i64 x2)))), (80, (.c (.v (.int .i64 x3))))], ofList none [(1790, some (.arr 3 (.int .i64) x4 false)), (100671488, some (.cells 47 [(.sl TShare x5), (.sref 12886078466)])), (12886078466, some (.arr 3 (.int .i64) x6 false))], ofList false [(1790, true), (100671488, true), (12886078466, true)]⟩
noncomputable def lAnew.l4  (m : Nat) (x0 : Int) (x1 : List (El TShare)) (x2 : List (El TShare)) (x3 : Int) (x4 : Int) (x5 : List Int) (x6 : List (El TShare)) (x7 : List Int) : R := run (lAnew.cfg ) 150 lAnew.rs m ((todoR 24 lAnew.body []).getD []) ⟨ofList (.c .junk) [(2, (.c (.v (.int .i64 x0)))), (7, (.c (.sl TShare x1))), (12, (.c (.ref 100671488 0))), (13, (.c (.sref 1790))), (93, (.c (.sl TShare x2))), (94, (.c (.v (.int .i64 x3)))), (95, (.c (.v (.int .i64 x4))))], ofList none [(1790, some (.arr 3 (.int .i64) x5 false)), (100671488, some (.cells 47 [(.sl TShare x6), (.sref 12886078466)])), (12886078466, some (.arr 3 (.int .i64) x7 false))], ofList false [(1790, true), (100671488, true), (12886078466, true)]⟩
noncomputable def lAnew.l5  (m : Nat) (x0 : List (El TShare)) (x1 : Int) (x2 : Int) (x3 : List Int) (x4 : List (El TShare)) (x5 : List Int) : R := run (lAnew.cfg ) 150 lAnew.rs m ((todoR 34 lAnew.body []).getD []) ⟨ofList (.c .junk) [(7, (.c (.sl TShare x0))), (12, (.c (.ref 100671488 0))), (13, (.c (.sref 1790))), (128, (.c (.v (.int .i64 x1)))), (129, (.c (.v (.int .i64 x2))))], ofList none [(1790, some (.arr 3 (.int .i64) x3 false)), (100671488, some (.cells 47 [(.sl TShare x4), (.sref 12886078466)])), (12886078466, some (.arr 3 (.int .i64) x5 false))], ofList false [(1790, true), (100671488, true), (12886078466, true)]⟩
noncomputable def lAnew.go  (m : Nat) (x0 : (List Int)) (x1 : (List Int)) (x2 : Int) : R := run (lAnew.cfg ) 150 lAnew.rs m [.code lAnew.body] (enter (ivA lAnew.ps (x0, x1, x2, ())))
theorem lAnew.start  (m : Nat) (x0 : (List Int)) (x1 : (List Int)) (x2 : Int) : lAnew.go  (m + 1) x0 x1 x2 =
  cond (decide (((List.length x0) : Int) < (1 : Int))) (
   some ((.c (.v (.bool true))), [])) (
   cond (decide (((List.length x0) : Int) > (10 : Int))) (
    some ((.c (.v (.bool true))), [])) (
    cond (decide (((List.length x1) : Int) < ((List.length x0) : Int))) (
     some ((.c (.v (.bool true))), [])) (
     lAnew.l1  m x0 x1 x2 x0 ((List.length x0) : Int) (0 : Int) ([] : List (El TShare))))) := by kernel_rfl
theorem lAnew.s1  (m : Nat) (x0 : List Int) (x1 : List Int) (x2 : Int) (x3 : List Int) (x4 : Int) (x5 : Int) (x6 : List (El TShare)) : lAnew.l1  (m + 1) x0 x1 x2 x3 x4 x5 x6 =
  cond (decide (x5 < x4)) (
   test (decide ((0 : Int) ≤ x5)) (
    test (decide (x5 < ((List.length x3) : Int))) (
     test (decide ((0 : Int) ≤ x5)) (
      test (decide (x5 ≤ ((List.length x0) : Int))) (
       lAnew.l2  m x0 x1 x2 x5 (rdEl (.int .i64) x3 (Int.toNat x5)) x3 x4 x5 (List.drop 0 (List.take (Int.toNat x5) x0)) ((List.length (List.drop 0 (List.take (Int.toNat x5) x0))) : Int) (0 : Int) x6))))) (
   lAnew.l3  m (IntKind.i64.wrap (Int.tmod (IntKind.u64.wrap x2) (40 : Int))) x6 (IntKind.i64.wrap (Int.tmod (IntKind.u64.wrap x2) (40 : Int))) (0 : Int) ([] : List Int) ([] : List (El TShare)) ([] : List Int)) := by kernel_rfl
theorem lAnew.s2  (m : Nat) (x0 : List Int) (x1 : List Int) (x2 : Int) (x3 : Int) (x4 : Int) (x5 : List Int) (x6 : Int) (x7 : Int) (x8 : List Int) (x9 : Int) (x10 : Int) (x11 : List (El TShare)) : lAnew.l2  (m + 1) x0 x1 x2 x3 x4 x5 x6 x7 x8 x9 x10 x11 =
  cond (decide (x10 < x9)) (
   test (decide ((0 : Int) ≤ x10)) (
    test (decide (x10 < ((List.length x8) : Int))) (
     cond (x4 == (rdEl (.int .i64) x8 (Int.toNat x10))) (
      some ((.c (.v (.bool true))), [])) (
      lAnew.l2  m x0 x1 x2 x3 x4 x5 x6 x7 x8 x9 (IntKind.i64.wrap (x10 + (1 : Int))) x11)))) (
   test (decide ((0 : Int) ≤ x3)) (
    test (decide (x3 < ((List.length x1) : Int))) (
     test (decide (((List.length x11) + (List.length ((x4, (IntKind.i64.wrap ((1 : Int) + (IntKind.i64.wrap (Int.tmod (IntKind.u64.wrap (rdEl (.int .i64) x1 (Int.toNat x3))) (20 : Int)))))) :: ([] : List (El TShare))))) ≤ (lim 16))) (
      lAnew.l1  m x0 x1 x2 x5 x6 (IntKind.i64.wrap (x7 + (1 : Int))) (x11 ++ ((x4, (IntKind.i64.wrap ((1 : Int) + (IntKind.i64.wrap (Int.tmod (IntKind.u64.wrap (rdEl (.int .i64) x1 (Int.toNat x3))) (20 : Int)))))) :: ([] : List (El TShare)))))))) := by kernel_rfl
theorem lAnew.s3  (m : Nat) (x0 : Int) (x1 : List (El TShare)) (x2 : Int) (x3 : Int) (x4 : List Int) (x5 : List (El TShare)) (x6 : List Int) : lAnew.l3  (m + 1) x0 x1 x2 x3 x4 x5 x6 =
  cond (decide (x3 < x2)) (
   test (nextW.pre ((x5, x6), (x1, Unit.unit))) (
    test (decide (((List.length x4) + (List.length ((nextI (x5, x6) x1) :: ([] : List Int)))) ≤ (lim 8))) (
     lAnew.l3  m x0 x1 x2 (IntKind.i64.wrap (x3 + (1 : Int))) (x4 ++ ((nextI (x5, x6) x1) :: ([] : List Int))) ((wheelN (x5, x6) x1)).1 ((wheelN (x5, x6) x1)).2))) (
   lAnew.l4  m x0 x1 x1 ((List.length x1) : Int) (0 : Int) x4 x5 x6) := by kernel_rfl
theorem lAnew.s4  (m : Nat) (x0 : Int) (x1 : List (El TShare)) (x2 : List (El TShare)) (x3 : Int) (x4 : Int) (x5 : List Int) (x6 : List (El TShare)) (x7 : List Int) : lAnew.l4  (m + 1) x0 x1 x2 x3 x4 x5 x6 x7 =
  cond (decide (x4 < x3)) (
   test (decide ((0 : Int) ≤ x4)) (
    test (decide (x4 < ((List.length x2) : Int))) (
     test (decide ((0 : Int) < ((List.length x1) : Int))) (
      cond (((rdEl TShare x2 (Int.toNat x4))).1 == (IntKind.i64.wrap ((BitVec.toNat ((BitVec.ofInt (Go.IntKind.bits Go.IntKind.i64) ((rdEl TShare x1 (Int.toNat (0 : Int)))).1) ^^^ (BitVec.ofInt (Go.IntKind.bits Go.IntKind.i64) (1099511627776 : Int)))) : Int))) (
       some ((.c (.v (.bool true))), [])) (
       lAnew.l4  m x0 x1 x2 x3 (IntKind.i64.wrap (x4 + (1 : Int))) x5 x6 x7))))) (
   test (decide (((List.length ([] : List (El TShare))) + (List.length x1)) ≤ (lim 16))) (
    test (decide ((0 : Int) < ((List.length x1) : Int))) (
     test (decide (((List.length (([] : List (El TShare)) ++ x1)) + (List.length (((IntKind.i64.wrap ((BitVec.toNat ((BitVec.ofInt (Go.IntKind.bits Go.IntKind.i64) ((rdEl TShare x1 (Int.toNat (0 : Int)))).1) ^^^ (BitVec.ofInt (Go.IntKind.bits Go.IntKind.i64) (1099511627776 : Int)))) : Int)), (1 : Int)) :: ([] : List (El TShare))))) ≤ (lim 16))) (
      test (nextW.pre ((x6, x7), (((([] : List (El TShare)) ++ x1) ++ (((IntKind.i64.wrap ((BitVec.toNat ((BitVec.ofInt (Go.IntKind.bits Go.IntKind.i64) ((rdEl TShare x1 (Int.toNat (0 : Int)))).1) ^^^ (BitVec.ofInt (Go.IntKind.bits Go.IntKind.i64) (1099511627776 : Int)))) : Int)), (1 : Int)) :: ([] : List (El TShare)))), Unit.unit))) (
       cond (Bool.not (mayRow ((([] : List (El TShare)) ++ x1) ++ (((IntKind.i64.wrap ((BitVec.toNat ((BitVec.ofInt (Go.IntKind.bits Go.IntKind.i64) ((rdEl TShare x1 (Int.toNat (0 : Int)))).1) ^^^ (BitVec.ofInt (Go.IntKind.bits Go.IntKind.i64) (1099511627776 : Int)))) : Int)), (1 : Int)) :: ([] : List (El TShare)))))) (
        some ((.c (.v (.bool false))), [])) (
        lAnew.l5  m x1 x0 (0 : Int) x5 ((wheelN (x6, x7) ((([] : List (El TShare)) ++ x1) ++ (((IntKind.i64.wrap ((BitVec.toNat ((BitVec.ofInt (Go.IntKind.bits Go.IntKind.i64) ((rdEl TShare x1 (Int.toNat (0 : Int)))).1) ^^^ (BitVec.ofInt (Go.IntKind.bits Go.IntKind.i64) (1099511627776 : Int)))) : Int)), (1 : Int)) :: ([] : List (El TShare)))))).1 ((wheelN (x6, x7) ((([] : List (El TShare)) ++ x1) ++ (((IntKind.i64.wrap ((BitVec.toNat ((BitVec.ofInt (Go.IntKind.bits Go.IntKind.i64) ((rdEl TShare x1 (Int.toNat (0 : Int)))).1) ^^^ (BitVec.ofInt (Go.IntKind.bits Go.IntKind.i64) (1099511627776 : Int)))) : Int)), (1 : Int)) :: ([] : List (El TShare)))))).2)))))) := by kernel_rfl
theorem lAnew.s5  (m : Nat) (x0 : List (El TShare)) (x1 : Int) (x2 : Int) (x3 : List Int) (x4 : List (El TShare)) (x5 : List Int) : lAnew.l5  (m + 1) x0 x1 x2 x3 x4 x5 =
  cond (decide (x2 < x1)) (
   test (nextW.pre ((x4, x5), (x0, Unit.unit))) (
    cond (Bool.not (mayRow x0)) (
     some ((.c (.v (.bool false))), [])) (
     test (decide ((0 : Int) ≤ x2)) (
      test (decide (x2 < ((List.length x3) : Int))) (
       cond (bne (nextI (x4, x5) x0) (rdEl (.int .i64) x3 (Int.toNat x2))) (
        some ((.c (.v (.bool false))), [])) (
        lAnew.l5  m x0 x1 (IntKind.i64.wrap (x2 + (1 : Int))) x3 ((wheelN (x4, x5) x0)).1 ((wheelN (x4, x5) x0)).2)))))) (
   some ((.c (.v (.bool true))), [])) := by kernel_rfl
theorem lAnew.run_eq  (m : Nat) (x0 : (List Int)) (x1 : (List Int)) (x2 : Int) : run (lAnew.cfg ) Try.f7.ntmps Try.f7.results.toList m [.code (bodyOf Try.f7)] (enter (ivA lAnew.ps (x0, x1, x2, ()))) = lAnew.go  m x0 x1 x2 := by kernel_rfl
theorem lAnew.ret  (hs : SpecsOK Try.prog (lAnew.specs )) (ho : OSpecsOK Try.prog (lAnew.ospecs )) (x0 : (List Int)) (x1 : (List Int)) (x2 : Int) {m : Nat} {r : IV} (h : lAnew.go  m x0 x1 x2 = some (r, [])) : VE.Returns Try.prog 7 (ivA lAnew.ps (x0, x1, x2, ())) r :=
  returns_of_run (cfg := lAnew.cfg ) (cfgOK_of mixed tab_ok hs ho) rfl Try.func7 (body_some (by kernel_rfl)) (Nat.le_of_ble_eq_true (by kernel_rfl)) ((lAnew.run_eq  m x0 x1 x2).trans h)
abbrev lAnew.Law : Prop := ∀ (x0 : (List Int)) (x1 : (List Int)) (x2 : Int), lAnew.pre (x0, x1, x2, ()) = true → VE.Returns Try.prog 7 (ivA lAnew.ps (x0, x1, x2, ())) (lAnew.res (x0, x1, x2, ()))
theorem lAnew.mkR (H : ∀ (x0 : (List Int)) (x1 : (List Int)) (x2 : Int), lAnew.pre (x0, x1, x2, ()) = true → VE.Returns Try.prog 7 (ivA lAnew.ps (x0, x1, x2, ())) (lAnew.res (x0, x1, x2, ()))) : SpecOK Try.prog 7 lAnew.sp :=
  specOf_ret Try.func7 (by kernel_rfl) (by kernel_rfl) fun (x : (List Int) × (List Int) × Int × Unit) hx => H (x.1) (x.2.1) (x.2.2.1) hx
theorem lAnew.mk  (hs : SpecsOK Try.prog (lAnew.specs )) (ho : OSpecsOK Try.prog (lAnew.ospecs )) (H : ∀ (x0 : (List Int)) (x1 : (List Int)) (x2 : Int), lAnew.pre (x0, x1, x2, ()) = true → ∃ m, lAnew.go  m x0 x1 x2 = some (lAnew.res (x0, x1, x2, ()), [])) : SpecOK Try.prog 7 lAnew.sp :=
  lAnew.mkR fun x0 x1 x2 hx => (H x0 x1 x2 hx).elim fun _ hm => lAnew.ret  hs ho x0 x1 x2 hm

end Go.Proofs.Ytgocadoemofepaa
