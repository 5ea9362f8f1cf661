/-
  Steps of the bodies, from checkpoint to checkpoint (printed by wip/VE/mk2.py).
-/
import Derived.Test.YtemkgdkkpeijfaaT
import Derived.Test.YtemkgdkkpeijfaaFA
namespace Go.Proofs.Ytemkgdkkpeijfaa
open Go VE

/-! ### slices.Index(()triage/api.Pair,triage/api.Pair) -/
abbrev indexP.ps : List AK := [.d false (.sl TPair), .d true TPair]
def indexP.pre : ElA indexP.ps → Bool := fun (x : (List (El TPair)) × (El TPair) × Unit) => fits (.sl TPair) (x.1) && (fits TPair (x.2.1) && (true))
def indexP.res : ElA indexP.ps → IV := fun (x : (List (El TPair)) × (El TPair) × Unit) => (fun l p => vi .i64 (ixOf (pairEq p) l)) x.1 x.2.1
def indexP.sp : ISpec := spOf indexP.ps indexP.pre indexP.res
abbrev indexP.OK : Prop := SpecOK Try.prog 53 indexP.sp
noncomputable def indexP.body : Code := bodyOf Try.f53
noncomputable def indexP.rs : List ResultVar := Try.f53.results.toList
def indexP.live : List (Nat × Live) := [(2, ⟨[(0, .sl TPair), (3, .plain), (7, .plain), (8, .plain)], [(1, [])]⟩)]
noncomputable def indexP.specs  : List (Nat × (List Bool × ISpec)) := []
noncomputable def indexP.ospecs  : List (Nat × OS) := []
noncomputable def indexP.cfg  : Cfg := ⟨lkp tab, lkp (indexP.specs ), lkp indexP.live, ⟨lkp (indexP.ospecs ), [], none, false⟩⟩
noncomputable def indexP.l1  (m : Nat) (x0 : List (El TPair)) (x1 : Int) (x2 : Int) (x3 : ByteArray) (x4 : ByteArray) : R := run (indexP.cfg ) 19 indexP.rs m ((todoR 2 indexP.body []).getD []) ⟨ofList (.c .junk) [(0, (.c (.sl TPair x0))), (3, (.c (.ref 1 0))), (7, (.c (.v (.int .i64 x1)))), (8, (.c (.v (.int .i64 x2))))], ofList none [(1, some (.cells 48 [(.v (.string x3)), (.v (.string x4))]))], ofList false [(1, true)]⟩
noncomputable def indexP.go  (m : Nat) (x0 : (List (El TPair))) (x1 : (El TPair)) : R := run (indexP.cfg ) 19 indexP.rs m [.code indexP.body] (enter (ivA indexP.ps (x0, x1, ())))
theorem indexP.start  (m : Nat) (x0 : (List (El TPair))) (x1 : (El TPair)) : indexP.go  (m + 1) x0 x1 =
  indexP.l1  m x0 ((List.length x0) : Int) (0 : Int) x1.1 x1.2 := by kernel_rfl
theorem indexP.s1  (m : Nat) (x0 : List (El TPair)) (x1 : Int) (x2 : Int) (x3 : ByteArray) (x4 : ByteArray) : indexP.l1  (m + 1) x0 x1 x2 x3 x4 =
  cond (decide (x2 < x1)) (
   test (decide ((0 : Int) ≤ x2)) (
    test (decide (x2 < ((List.length x0) : Int))) (
     cond (((ByteArray.toList x3) == (ByteArray.toList ((rdEl TPair x0 (Int.toNat x2))).1)) && (((ByteArray.toList x4) == (ByteArray.toList ((rdEl TPair x0 (Int.toNat x2))).2)) && true)) (
      some ((.c (.v (.int .i64 x2))), [])) (
      indexP.l1  m x0 x1 (IntKind.i64.wrap (x2 + (1 : Int))) x3 x4)))) (
   some ((.c (.v (.int .i64 (-(1 : Int))))), [])) := by kernel_rfl
theorem indexP.run_eq  (m : Nat) (x0 : (List (El TPair))) (x1 : (El TPair)) : run (indexP.cfg ) Try.f53.ntmps Try.f53.results.toList m [.code (bodyOf Try.f53)] (enter (ivA indexP.ps (x0, x1, ()))) = indexP.go  m x0 x1 := by kernel_rfl
theorem indexP.ret  (hs : SpecsOK Try.prog (indexP.specs ))  (x0 : (List (El TPair))) (x1 : (El TPair)) {m : Nat} {r : IV} (h : indexP.go  m x0 x1 = some (r, [])) : VE.Returns Try.prog 53 (ivA indexP.ps (x0, x1, ())) r :=
  returns_of_run (cfg := indexP.cfg ) (cfgOK_of mixed tab_ok hs .nil) rfl Try.func53 (body_some (by kernel_rfl)) (Nat.le_of_ble_eq_true (by kernel_rfl)) ((indexP.run_eq  m x0 x1).trans h)
abbrev indexP.Law : Prop := ∀ (x0 : (List (El TPair))) (x1 : (El TPair)), indexP.pre (x0, x1, ()) = true → VE.Returns Try.prog 53 (ivA indexP.ps (x0, x1, ())) (indexP.res (x0, x1, ()))
theorem indexP.mkR (H : ∀ (x0 : (List (El TPair))) (x1 : (El TPair)), indexP.pre (x0, x1, ()) = true → VE.Returns Try.prog 53 (ivA indexP.ps (x0, x1, ())) (indexP.res (x0, x1, ()))) : SpecOK Try.prog 53 indexP.sp :=
  specOf_ret Try.func53 (by kernel_rfl) (by kernel_rfl) fun (x : (List (El TPair)) × (El TPair) × Unit) hx => H (x.1) (x.2.1) hx
theorem indexP.mk  (hs : SpecsOK Try.prog (indexP.specs ))  (H : ∀ (x0 : (List (El TPair))) (x1 : (El TPair)), indexP.pre (x0, x1, ()) = true → ∃ m, indexP.go  m x0 x1 = some (indexP.res (x0, x1, ()), [])) : SpecOK Try.prog 53 indexP.sp :=
  indexP.mkR fun x0 x1 hx => (H x0 x1 hx).elim fun _ hm => indexP.ret  hs  x0 x1 hm

/-! ### slices.Contains(()triage/api.Pair,triage/api.Pair) -/
abbrev contP.ps : List AK := [.d false (.sl TPair), .d true TPair]
def contP.pre : ElA contP.ps → Bool := fun (x : (List (El TPair)) × (El TPair) × Unit) => fits (.sl TPair) (x.1) && (fits TPair (x.2.1) && (true))
def contP.res : ElA contP.ps → IV := fun (x : (List (El TPair)) × (El TPair) × Unit) => (fun l p => vb (List.any l (pairEq p))) x.1 x.2.1
def contP.sp : ISpec := spOf contP.ps contP.pre contP.res
abbrev contP.OK : Prop := SpecOK Try.prog 46 contP.sp
noncomputable def contP.body : Code := bodyOf Try.f46
noncomputable def contP.rs : List ResultVar := Try.f46.results.toList
def contP.live : List (Nat × Live) := []
noncomputable def contP.specs  : List (Nat × (List Bool × ISpec)) := [(53, ([], indexP.sp))]
noncomputable def contP.ospecs  : List (Nat × OS) := []
noncomputable def contP.cfg  : Cfg := ⟨lkp tab, lkp (contP.specs ), lkp contP.live, ⟨lkp (contP.ospecs ), [], none, false⟩⟩
noncomputable def contP.go  (m : Nat) (x0 : (List (El TPair))) (x1 : (El TPair)) : R := run (contP.cfg ) 9 contP.rs m [.code contP.body] (enter (ivA contP.ps (x0, x1, ())))
theorem contP.start  (m : Nat) (x0 : (List (El TPair))) (x1 : (El TPair)) : contP.go  (m + 1) x0 x1 =
  test (indexP.pre (x0, (x1, Unit.unit))) (
   some ((.c (.v (.bool (decide ((ixOf (pairEq x1) x0) ≥ (0 : Int)))))), [])) := by kernel_rfl
theorem contP.run_eq  (m : Nat) (x0 : (List (El TPair))) (x1 : (El TPair)) : run (contP.cfg ) Try.f46.ntmps Try.f46.results.toList m [.code (bodyOf Try.f46)] (enter (ivA contP.ps (x0, x1, ()))) = contP.go  m x0 x1 := by kernel_rfl
theorem contP.ret  (hs : SpecsOK Try.prog (contP.specs ))  (x0 : (List (El TPair))) (x1 : (El TPair)) {m : Nat} {r : IV} (h : contP.go  m x0 x1 = some (r, [])) : VE.Returns Try.prog 46 (ivA contP.ps (x0, x1, ())) r :=
  returns_of_run (cfg := contP.cfg ) (cfgOK_of mixed tab_ok hs .nil) rfl Try.func46 (body_some (by kernel_rfl)) (Nat.le_of_ble_eq_true (by kernel_rfl)) ((contP.run_eq  m x0 x1).trans h)
abbrev contP.Law : Prop := ∀ (x0 : (List (El TPair))) (x1 : (El TPair)), contP.pre (x0, x1, ()) = true → VE.Returns Try.prog 46 (ivA contP.ps (x0, x1, ())) (contP.res (x0, x1, ()))
theorem contP.mkR (H : ∀ (x0 : (List (El TPair))) (x1 : (El TPair)), contP.pre (x0, x1, ()) = true → VE.Returns Try.prog 46 (ivA contP.ps (x0, x1, ())) (contP.res (x0, x1, ()))) : SpecOK Try.prog 46 contP.sp :=
  specOf_ret Try.func46 (by kernel_rfl) (by kernel_rfl) fun (x : (List (El TPair)) × (El TPair) × Unit) hx => H (x.1) (x.2.1) hx
theorem contP.mk  (hs : SpecsOK Try.prog (contP.specs ))  (H : ∀ (x0 : (List (El TPair))) (x1 : (El TPair)), contP.pre (x0, x1, ()) = true → ∃ m, contP.go  m x0 x1 = some (contP.res (x0, x1, ()), [])) : SpecOK Try.prog 46 contP.sp :=
  contP.mkR fun x0 x1 hx => (H x0 x1 hx).elim fun _ hm => contP.ret  hs  x0 x1 hm

/-! ### triage/host.Has -/
abbrev has.ps : List AK := [.d true THost, .d false (.sl TPair)]
def has.pre : ElA has.ps → Bool := fun (x : (El THost) × (List (El TPair)) × Unit) => fits THost (x.1) && (fits (.sl TPair) (x.2.1) && (true))
def has.res : ElA has.ps → IV := fun (x : (El THost) × (List (El TPair)) × Unit) => (fun h l => vb (hasB h l)) x.1 x.2.1
def has.sp : ISpec := spOf has.ps has.pre has.res
abbrev has.OK : Prop := SpecOK Try.prog 30 has.sp
noncomputable def has.body : Code := bodyOf Try.f30
noncomputable def has.rs : List ResultVar := Try.f30.results.toList
def has.live : List (Nat × Live) := [(2, ⟨[(2, .plain), (7, .sl TPair), (8, .plain), (9, .plain)], [(1, [])]⟩)]
noncomputable def has.specs  : List (Nat × (List Bool × ISpec)) := [(46, ([], contP.sp))]
noncomputable def has.ospecs  : List (Nat × OS) := []
noncomputable def has.cfg  : Cfg := ⟨lkp tab, lkp (has.specs ), lkp has.live, ⟨lkp (has.ospecs ), [], none, false⟩⟩
noncomputable def has.l1  (m : Nat) (x0 : List (El TPair)) (x1 : Int) (x2 : Int) (x3 : Int) (x4 : ByteArray) (x5 : Int) (x6 : ByteArray) (x7 : Int) (x8 : List (El TPair)) : R := run (has.cfg ) 19 has.rs m ((todoR 2 has.body []).getD []) ⟨ofList (.c .junk) [(2, (.c (.ref 1 0))), (7, (.c (.sl TPair x0))), (8, (.c (.v (.int .i64 x1)))), (9, (.c (.v (.int .i64 x2))))], ofList none [(1, some (.cells 28 [(.v (.int .i64 x3)), (.v (.string x4)), (.v (.int .i64 x5)), (.v (.string x6)), (.v (.int .i64 x7)), (.sl TPair x8)]))], ofList false [(1, true)]⟩
noncomputable def has.go  (m : Nat) (x0 : (El THost)) (x1 : (List (El TPair))) : R := run (has.cfg ) 19 has.rs m [.code has.body] (enter (ivA has.ps (x0, x1, ())))
theorem has.start  (m : Nat) (x0 : (El THost)) (x1 : (List (El TPair))) : has.go  (m + 1) x0 x1 =
  has.l1  m x1 ((List.length x1) : Int) (0 : Int) x0.1 x0.2.1 x0.2.2.1 x0.2.2.2.1 x0.2.2.2.2.1 x0.2.2.2.2.2 := by kernel_rfl
theorem has.s1  (m : Nat) (x0 : List (El TPair)) (x1 : Int) (x2 : Int) (x3 : Int) (x4 : ByteArray) (x5 : Int) (x6 : ByteArray) (x7 : Int) (x8 : List (El TPair)) : has.l1  (m + 1) x0 x1 x2 x3 x4 x5 x6 x7 x8 =
  cond (decide (x2 < x1)) (
   test (decide ((0 : Int) ≤ x2)) (
    test (decide (x2 < ((List.length x0) : Int))) (
     test (contP.pre (x8, (((rdEl TPair x0 (Int.toNat x2))), Unit.unit))) (
      cond (Bool.not (List.any x8 (pairEq ((rdEl TPair x0 (Int.toNat x2)))))) (
       some ((.c (.v (.bool false))), [])) (
       has.l1  m x0 x1 (IntKind.i64.wrap (x2 + (1 : Int))) x3 x4 x5 x6 x7 x8))))) (
   some ((.c (.v (.bool true))), [])) := by kernel_rfl
theorem has.run_eq  (m : Nat) (x0 : (El THost)) (x1 : (List (El TPair))) : run (has.cfg ) Try.f30.ntmps Try.f30.results.toList m [.code (bodyOf Try.f30)] (enter (ivA has.ps (x0, x1, ()))) = has.go  m x0 x1 := by kernel_rfl
theorem has.ret  (hs : SpecsOK Try.prog (has.specs ))  (x0 : (El THost)) (x1 : (List (El TPair))) {m : Nat} {r : IV} (h : has.go  m x0 x1 = some (r, [])) : VE.Returns Try.prog 30 (ivA has.ps (x0, x1, ())) r :=
  returns_of_run (cfg := has.cfg ) (cfgOK_of mixed tab_ok hs .nil) rfl Try.func30 (body_some (by kernel_rfl)) (Nat.le_of_ble_eq_true (by kernel_rfl)) ((has.run_eq  m x0 x1).trans h)
abbrev has.Law : Prop := ∀ (x0 : (El THost)) (x1 : (List (El TPair))), has.pre (x0, x1, ()) = true → VE.Returns Try.prog 30 (ivA has.ps (x0, x1, ())) (has.res (x0, x1, ()))
theorem has.mkR (H : ∀ (x0 : (El THost)) (x1 : (List (El TPair))), has.pre (x0, x1, ()) = true → VE.Returns Try.prog 30 (ivA has.ps (x0, x1, ())) (has.res (x0, x1, ()))) : SpecOK Try.prog 30 has.sp :=
  specOf_ret Try.func30 (by kernel_rfl) (by kernel_rfl) fun (x : (El THost) × (List (El TPair)) × Unit) hx => H (x.1) (x.2.1) hx
theorem has.mk  (hs : SpecsOK Try.prog (has.specs ))  (H : ∀ (x0 : (El THost)) (x1 : (List (El TPair))), has.pre (x0, x1, ()) = true → ∃ m, has.go  m x0 x1 = some (has.res (x0, x1, ()), [])) : SpecOK Try.prog 30 has.sp :=
  has.mkR fun x0 x1 hx => (H x0 x1 hx).elim fun _ hm => has.ret  hs  x0 x1 hm

/-! ### triage/triageref1.Has -/
abbrev hasR.ps : List AK := [.d true THost, .d false (.sl TPair)]
def hasR.pre : ElA hasR.ps → Bool := fun (x : (El THost) × (List (El TPair)) × Unit) => fits THost (x.1) && (fits (.sl TPair) (x.2.1) && (true))
def hasR.res : ElA hasR.ps → IV := fun (x : (El THost) × (List (El TPair)) × Unit) => (fun h l => vb (hasB h l)) x.1 x.2.1
def hasR.sp : ISpec := spOf hasR.ps hasR.pre hasR.res
abbrev hasR.OK : Prop := SpecOK Try.prog 24 hasR.sp
noncomputable def hasR.body : Code := bodyOf Try.f24
noncomputable def hasR.rs : List ResultVar := Try.f24.results.toList
def hasR.live : List (Nat × Live) := [(6, ⟨[(2, .plain), (6, .plain), (7, .plain), (10, .sl TPair), (11, .plain), (12, .plain), (17, .sl TPair), (18, .plain), (19, .plain)], [(1, []), (1541, [])]⟩), (2, ⟨[(2, .plain), (10, .sl TPair), (11, .plain), (12, .plain)], [(1, [])]⟩)]
noncomputable def hasR.specs  : List (Nat × (List Bool × ISpec)) := []
noncomputable def hasR.ospecs  : List (Nat × OS) := []
noncomputable def hasR.cfg  : Cfg := ⟨lkp tab, lkp (hasR.specs ), lkp hasR.live, ⟨lkp (hasR.ospecs ), [], none, false⟩⟩
noncomputable def hasR.l1  (m : Nat) (x0 : List (El TPair)) (x1 : Int) (x2 : Int) (x3 : Int) (x4 : ByteArray) (x5 : Int) (x6 : ByteArray) (x7 : Int) (x8 : List (El TPair)) : R := run (hasR.cfg ) 33 hasR.rs m ((todoR 2 hasR.body []).getD []) ⟨ofList (.c .junk) [(2, (.c (.ref 1 0))), (10, (.c (.sl TPair x0))), (11, (.c (.v (.int .i64 x1)))), (12, (.c (.v (.int .i64 x2))))], ofList none [(1, some (.cells 28 [(.v (.int .i64 x3)), (.v (.string x4)), (.v (.int .i64 x5)), (.v (.string x6)), (.v (.int .i64 x7)), (.sl TPair x8)]))], ofList false [(1, true)]⟩
noncomputable def hasR.l2  (m : Nat) (x0 : Bool) (x1 : List (El TPair)) (x2 : Int) (x3 : Int) (x4 : List (El TPair)) (x5 : Int) (x6 : Int) (x7 : Int) (x8 : ByteArray) (x9 : Int) (x10 : ByteArray) (x11 : Int) (x12 : List (El TPair)) (x13 : ByteArray) (x14 : ByteArray) : R := run (hasR.cfg ) 33 hasR.rs m ((todoR 6 hasR.body []).getD []) ⟨ofList (.c .junk) [(2, (.c (.ref 1 0))), (6, (.c (.ref 1541 0))), (7, (.c (.v (.bool x0)))), (10, (.c (.sl TPair x1))), (11, (.c (.v (.int .i64 x2)))), (12, (.c (.v (.int .i64 x3)))), (17, (.c (.sl TPair x4))), (18, (.c (.v (.int .i64 x5)))), (19, (.c (.v (.int .i64 x6))))], ofList none [(1, some (.cells 28 [(.v (.int .i64 x7)), (.v (.string x8)), (.v (.int .i64 x9)), (.v (.string x10)), (.v (.int .i64 x11)), (.sl TPair x12)])), (1541, some (.cells 48 [(.v (.string x13)), (.v (.string x14))]))], ofList false [(1, true), (1541, true)]⟩
noncomputable def hasR.go  (m : Nat) (x0 : (El THost)) (x1 : (List (El TPair))) : R := run (hasR.cfg ) 33 hasR.rs m [.code hasR.body] (enter (ivA hasR.ps (x0, x1, ())))
theorem hasR.start  (m : Nat) (x0 : (El THost)) (x1 : (List (El TPair))) : hasR.go  (m + 1) x0 x1 =
  hasR.l1  m x1 ((List.length x1) : Int) (0 : Int) x0.1 x0.2.1 x0.2.2.1 x0.2.2.2.1 x0.2.2.2.2.1 x0.2.2.2.2.2 := by kernel_rfl
theorem hasR.s1  (m : Nat) (x0 : List (El TPair)) (x1 : Int) (x2 : Int) (x3 : Int) (x4 : ByteArray) (x5 : Int) (x6 : ByteArray) (x7 : Int) (x8 : List (El TPair)) : hasR.l1  (m + 1) x0 x1 x2 x3 x4 x5 x6 x7 x8 =
  cond (decide (x2 < x1)) (
   test (decide ((0 : Int) ≤ x2)) (
    test (decide (x2 < ((List.length x0) : Int))) (
     hasR.l2  m false x0 x1 x2 x8 ((List.length x8) : Int) (0 : Int) x3 x4 x5 x6 x7 x8 ((rdEl TPair x0 (Int.toNat x2))).1 ((rdEl TPair x0 (Int.toNat x2))).2))) (
   some ((.c (.v (.bool true))), [])) := by kernel_rfl
theorem hasR.s2  (m : Nat) (x0 : Bool) (x1 : List (El TPair)) (x2 : Int) (x3 : Int) (x4 : List (El TPair)) (x5 : Int) (x6 : Int) (x7 : Int) (x8 : ByteArray) (x9 : Int) (x10 : ByteArray) (x11 : Int) (x12 : List (El TPair)) (x13 : ByteArray) (x14 : ByteArray) : hasR.l2  (m + 1) x0 x1 x2 x3 x4 x5 x6 x7 x8 x9 x10 x11 x12 x13 x14 =
  cond (decide (x6 < x5)) (
   test (decide ((0 : Int) ≤ x6)) (
    test (decide (x6 < ((List.length x4) : Int))) (
     cond x0 (
      hasR.l2  m true x1 x2 x3 x4 x5 (IntKind.i64.wrap (x6 + (1 : Int))) x7 x8 x9 x10 x11 x12 x13 x14) (
      hasR.l2  m (((ByteArray.toList x13) == (ByteArray.toList ((rdEl TPair x4 (Int.toNat x6))).1)) && (((ByteArray.toList x14) == (ByteArray.toList ((rdEl TPair x4 (Int.toNat x6))).2)) && true)) x1 x2 x3 x4 x5 (IntKind.i64.wrap (x6 + (1 : Int))) x7 x8 x9 x10 x11 x12 x13 x14)))) (
   cond (Bool.not x0) (
    some ((.c (.v (.bool false))), [])) (
    hasR.l1  m x1 x2 (IntKind.i64.wrap (x3 + (1 : Int))) x7 x8 x9 x10 x11 x12)) := by kernel_rfl
theorem hasR.run_eq  (m : Nat) (x0 : (El THost)) (x1 : (List (El TPair))) : run (hasR.cfg ) Try.f24.ntmps Try.f24.results.toList m [.code (bodyOf Try.f24)] (enter (ivA hasR.ps (x0, x1, ()))) = hasR.go  m x0 x1 := by kernel_rfl
theorem hasR.ret  (hs : SpecsOK Try.prog (hasR.specs ))  (x0 : (El THost)) (x1 : (List (El TPair))) {m : Nat} {r : IV} (h : hasR.go  m x0 x1 = some (r, [])) : VE.Returns Try.prog 24 (ivA hasR.ps (x0, x1, ())) r :=
  returns_of_run (cfg := hasR.cfg ) (cfgOK_of mixed tab_ok hs .nil) rfl Try.func24 (body_some (by kernel_rfl)) (Nat.le_of_ble_eq_true (by kernel_rfl)) ((hasR.run_eq  m x0 x1).trans h)
abbrev hasR.Law : Prop := ∀ (x0 : (El THost)) (x1 : (List (El TPair))), hasR.pre (x0, x1, ()) = true → VE.Returns Try.prog 24 (ivA hasR.ps (x0, x1, ())) (hasR.res (x0, x1, ()))
theorem hasR.mkR (H : ∀ (x0 : (El THost)) (x1 : (List (El TPair))), hasR.pre (x0, x1, ()) = true → VE.Returns Try.prog 24 (ivA hasR.ps (x0, x1, ())) (hasR.res (x0, x1, ()))) : SpecOK Try.prog 24 hasR.sp :=
  specOf_ret Try.func24 (by kernel_rfl) (by kernel_rfl) fun (x : (El THost) × (List (El TPair)) × Unit) hx => H (x.1) (x.2.1) hx
theorem hasR.mk  (hs : SpecsOK Try.prog (hasR.specs ))  (H : ∀ (x0 : (El THost)) (x1 : (List (El TPair))), hasR.pre (x0, x1, ()) = true → ∃ m, hasR.go  m x0 x1 = some (hasR.res (x0, x1, ()), [])) : SpecOK Try.prog 24 hasR.sp :=
  hasR.mkR fun x0 x1 hx => (H x0 x1 hx).elim fun _ hm => hasR.ret  hs  x0 x1 hm

/-! ### triage/triageref1.SamePairs -/
abbrev samePR.ps : List AK := [.d false (.sl TPair), .d false (.sl TPair)]
def samePR.pre : ElA samePR.ps → Bool := fun (x : (List (El TPair)) × (List (El TPair)) × Unit) => fits (.sl TPair) (x.1) && (fits (.sl TPair) (x.2.1) && (true))
def samePR.res : ElA samePR.ps → IV := fun (x : (List (El TPair)) × (List (El TPair)) × Unit) => (fun l m => vb (samePs l m)) x.1 x.2.1
def samePR.sp : ISpec := spOf samePR.ps samePR.pre samePR.res
abbrev samePR.OK : Prop := SpecOK Try.prog 49 samePR.sp
noncomputable def samePR.body : Code := bodyOf Try.f49
noncomputable def samePR.rs : List ResultVar := Try.f49.results.toList
def samePR.live : List (Nat × Live) := [(4, ⟨[(0, .sl TPair), (1, .sl TPair), (12, .plain), (13, .plain)], []⟩)]
noncomputable def samePR.specs  : List (Nat × (List Bool × ISpec)) := []
noncomputable def samePR.ospecs  : List (Nat × OS) := []
noncomputable def samePR.cfg  : Cfg := ⟨lkp tab, lkp (samePR.specs ), lkp samePR.live, ⟨lkp (samePR.ospecs ), [], none, false⟩⟩
noncomputable def samePR.l1  (m : Nat) (x0 : List (El TPair)) (x1 : List (El TPair)) (x2 : Int) (x3 : Int) : R := run (samePR.cfg ) 26 samePR.rs m ((todoR 4 samePR.body []).getD []) ⟨ofList (.c .junk) [(0, (.c (.sl TPair x0))), (1, (.c (.sl TPair x1))), (12, (.c (.v (.int .i64 x2)))), (13, (.c (.v (.int .i64 x3))))], ofList none [], ofList false []⟩
noncomputable def samePR.go  (m : Nat) (x0 : (List (El TPair))) (x1 : (List (El TPair))) : R := run (samePR.cfg ) 26 samePR.rs m [.code samePR.body] (enter (ivA samePR.ps (x0, x1, ())))
theorem samePR.start  (m : Nat) (x0 : (List (El TPair))) (x1 : (List (El TPair))) : samePR.go  (m + 1) x0 x1 =
  cond (bne ((List.length x0) : Int) ((List.length x1) : Int)) (
   some ((.c (.v (.bool false))), [])) (
   samePR.l1  m x0 x1 ((List.length x0) : Int) (0 : Int)) := by kernel_rfl
theorem samePR.s1  (m : Nat) (x0 : List (El TPair)) (x1 : List (El TPair)) (x2 : Int) (x3 : Int) : samePR.l1  (m + 1) x0 x1 x2 x3 =
  cond (decide (x3 < x2)) (
   test (decide ((0 : Int) ≤ x3)) (
    test (decide (x3 < ((List.length x0) : Int))) (
     test (decide ((0 : Int) ≤ x3)) (
      test (decide (x3 < ((List.length x1) : Int))) (
       cond (Bool.not (((ByteArray.toList ((rdEl TPair x0 (Int.toNat x3))).1) == (ByteArray.toList ((rdEl TPair x1 (Int.toNat x3))).1)) && (((ByteArray.toList ((rdEl TPair x0 (Int.toNat x3))).2) == (ByteArray.toList ((rdEl TPair x1 (Int.toNat x3))).2)) && true))) (
        some ((.c (.v (.bool false))), [])) (
        samePR.l1  m x0 x1 x2 (IntKind.i64.wrap (x3 + (1 : Int))))))))) (
   some ((.c (.v (.bool true))), [])) := by kernel_rfl
theorem samePR.run_eq  (m : Nat) (x0 : (List (El TPair))) (x1 : (List (El TPair))) : run (samePR.cfg ) Try.f49.ntmps Try.f49.results.toList m [.code (bodyOf Try.f49)] (enter (ivA samePR.ps (x0, x1, ()))) = samePR.go  m x0 x1 := by kernel_rfl
theorem samePR.ret  (hs : SpecsOK Try.prog (samePR.specs ))  (x0 : (List (El TPair))) (x1 : (List (El TPair))) {m : Nat} {r : IV} (h : samePR.go  m x0 x1 = some (r, [])) : VE.Returns Try.prog 49 (ivA samePR.ps (x0, x1, ())) r :=
  returns_of_run (cfg := samePR.cfg ) (cfgOK_of mixed tab_ok hs .nil) rfl Try.func49 (body_some (by kernel_rfl)) (Nat.le_of_ble_eq_true (by kernel_rfl)) ((samePR.run_eq  m x0 x1).trans h)
abbrev samePR.Law : Prop := ∀ (x0 : (List (El TPair))) (x1 : (List (El TPair))), samePR.pre (x0, x1, ()) = true → VE.Returns Try.prog 49 (ivA samePR.ps (x0, x1, ())) (samePR.res (x0, x1, ()))
theorem samePR.mkR (H : ∀ (x0 : (List (El TPair))) (x1 : (List (El TPair))), samePR.pre (x0, x1, ()) = true → VE.Returns Try.prog 49 (ivA samePR.ps (x0, x1, ())) (samePR.res (x0, x1, ()))) : SpecOK Try.prog 49 samePR.sp :=
  specOf_ret Try.func49 (by kernel_rfl) (by kernel_rfl) fun (x : (List (El TPair)) × (List (El TPair)) × Unit) hx => H (x.1) (x.2.1) hx
theorem samePR.mk  (hs : SpecsOK Try.prog (samePR.specs ))  (H : ∀ (x0 : (List (El TPair))) (x1 : (List (El TPair))), samePR.pre (x0, x1, ()) = true → ∃ m, samePR.go  m x0 x1 = some (samePR.res (x0, x1, ()), [])) : SpecOK Try.prog 49 samePR.sp :=
  samePR.mkR fun x0 x1 hx => (H x0 x1 hx).elim fun _ hm => samePR.ret  hs  x0 x1 hm

/-! ### triage/triageref1.SameHost -/
abbrev sameR.ps : List AK := [.d true THost, .d true THost]
def sameR.pre : ElA sameR.ps → Bool := fun (x : (El THost) × (El THost) × Unit) => fits THost (x.1) && (fits THost (x.2.1) && (true))
def sameR.res : ElA sameR.ps → IV := fun (x : (El THost) × (El THost) × Unit) => (fun a b => vb (sameB a b)) x.1 x.2.1
def sameR.sp : ISpec := spOf sameR.ps sameR.pre sameR.res
abbrev sameR.OK : Prop := SpecOK Try.prog 38 sameR.sp
noncomputable def sameR.body : Code := bodyOf Try.f38
noncomputable def sameR.rs : List ResultVar := Try.f38.results.toList
def sameR.live : List (Nat × Live) := []
noncomputable def sameR.specs  : List (Nat × (List Bool × ISpec)) := [(49, ([], samePR.sp))]
noncomputable def sameR.ospecs  : List (Nat × OS) := []
noncomputable def sameR.cfg  : Cfg := ⟨lkp tab, lkp (sameR.specs ), lkp sameR.live, ⟨lkp (sameR.ospecs ), [], none, false⟩⟩
noncomputable def sameR.go  (m : Nat) (x0 : (El THost)) (x1 : (El THost)) : R := run (sameR.cfg ) 45 sameR.rs m [.code sameR.body] (enter (ivA sameR.ps (x0, x1, ())))
theorem sameR.start  (m : Nat) (x0 : (El THost)) (x1 : (El THost)) : sameR.go  (m + 1) x0 x1 =
  cond (x0.1 == x1.1) (
   cond ((ByteArray.toList x0.2.1) == (ByteArray.toList x1.2.1)) (
    cond (x0.2.2.1 == x1.2.2.1) (
     cond ((ByteArray.toList x0.2.2.2.1) == (ByteArray.toList x1.2.2.2.1)) (
      cond (x0.2.2.2.2.1 == x1.2.2.2.2.1) (
       test (samePR.pre (x0.2.2.2.2.2, (x1.2.2.2.2.2, Unit.unit))) (
        some ((.c (.v (.bool (samePs x0.2.2.2.2.2 x1.2.2.2.2.2)))), []))) (
       some ((.c (.v (.bool false))), []))) (
      some ((.c (.v (.bool false))), []))) (
     some ((.c (.v (.bool false))), []))) (
    some ((.c (.v (.bool false))), []))) (
   some ((.c (.v (.bool false))), [])) := by kernel_rfl
theorem sameR.run_eq  (m : Nat) (x0 : (El THost)) (x1 : (El THost)) : run (sameR.cfg ) Try.f38.ntmps Try.f38.results.toList m [.code (bodyOf Try.f38)] (enter (ivA sameR.ps (x0, x1, ()))) = sameR.go  m x0 x1 := by kernel_rfl
theorem sameR.ret  (hs : SpecsOK Try.prog (sameR.specs ))  (x0 : (El THost)) (x1 : (El THost)) {m : Nat} {r : IV} (h : sameR.go  m x0 x1 = some (r, [])) : VE.Returns Try.prog 38 (ivA sameR.ps (x0, x1, ())) r :=
  returns_of_run (cfg := sameR.cfg ) (cfgOK_of mixed tab_ok hs .nil) rfl Try.func38 (body_some (by kernel_rfl)) (Nat.le_of_ble_eq_true (by kernel_rfl)) ((sameR.run_eq  m x0 x1).trans h)
abbrev sameR.Law : Prop := ∀ (x0 : (El THost)) (x1 : (El THost)), sameR.pre (x0, x1, ()) = true → VE.Returns Try.prog 38 (ivA sameR.ps (x0, x1, ())) (sameR.res (x0, x1, ()))
theorem sameR.mkR (H : ∀ (x0 : (El THost)) (x1 : (El THost)), sameR.pre (x0, x1, ()) = true → VE.Returns Try.prog 38 (ivA sameR.ps (x0, x1, ())) (sameR.res (x0, x1, ()))) : SpecOK Try.prog 38 sameR.sp :=
  specOf_ret Try.func38 (by kernel_rfl) (by kernel_rfl) fun (x : (El THost) × (El THost) × Unit) hx => H (x.1) (x.2.1) hx
theorem sameR.mk  (hs : SpecsOK Try.prog (sameR.specs ))  (H : ∀ (x0 : (El THost)) (x1 : (El THost)), sameR.pre (x0, x1, ()) = true → ∃ m, sameR.go  m x0 x1 = some (sameR.res (x0, x1, ()), [])) : SpecOK Try.prog 38 sameR.sp :=
  sameR.mkR fun x0 x1 hx => (H x0 x1 hx).elim fun _ hm => sameR.ret  hs  x0 x1 hm

/-! ### slices.Clone(()triage/api.Pair,triage/api.Pair) -/
abbrev clone.ps : List AK := [.d false (.sl TPair)]
def clone.pre : ElA clone.ps → Bool := fun (x : (List (El TPair)) × Unit) => fits (.sl TPair) (x.1) && (true)
def clone.res : ElA clone.ps → IV := fun (x : (List (El TPair)) × Unit) => (fun l => .c (.sl TPair l)) x.1
def clone.sp : ISpec := spOf clone.ps clone.pre clone.res
abbrev clone.OK : Prop := SpecOK Try.prog 54 clone.sp
theorem clone.mkR (H : ∀ (x0 : (List (El TPair))), clone.pre (x0, ()) = true → VE.Returns Try.prog 54 (ivA clone.ps (x0, ())) (clone.res (x0, ()))) : SpecOK Try.prog 54 clone.sp :=
  specOf_ret Try.func54 (by kernel_rfl) (by kernel_rfl) fun (x : (List (El TPair)) × Unit) hx => H (x.1) hx

/-! ### slices.Clone(()triage/api.Pair,triage/api.Pair) -/
noncomputable def cloneN.body : Code := bodyOf Try.f54
noncomputable def cloneN.rs : List ResultVar := Try.f54.results.toList
def cloneN.live : List (Nat × Live) := []
noncomputable def cloneN.specs  : List (Nat × (List Bool × ISpec)) := []
noncomputable def cloneN.ospecs  : List (Nat × OS) := []
noncomputable def cloneN.cfg  : Cfg := ⟨lkp tab, lkp (cloneN.specs ), lkp cloneN.live, ⟨lkp (cloneN.ospecs ), [], none, false⟩⟩
noncomputable def cloneN.go  (m : Nat)  : R := run (cloneN.cfg ) 8 cloneN.rs m [.code cloneN.body] (enter [.c (.v (.slice none 0 0))])
theorem cloneN.start  (m : Nat)  : cloneN.go  (m + 1)  =
  some ((.c (.v (.slice none 0 0))), []) := by kernel_rfl
theorem cloneN.run_eq  (m : Nat)  : run (cloneN.cfg ) Try.f54.ntmps Try.f54.results.toList m [.code (bodyOf Try.f54)] (enter [.c (.v (.slice none 0 0))]) = cloneN.go  m  := by kernel_rfl
theorem cloneN.ret  (hs : SpecsOK Try.prog (cloneN.specs ))   {m : Nat} {r : IV} (h : cloneN.go  m  = some (r, [])) : VE.Returns Try.prog 54 [.c (.v (.slice none 0 0))] r :=
  returns_of_run (cfg := cloneN.cfg ) (cfgOK_of mixed tab_ok hs .nil) rfl Try.func54 (body_some (by kernel_rfl)) (Nat.le_of_ble_eq_true (by kernel_rfl)) ((cloneN.run_eq  m ).trans h)

/-! ### slices.Clone(()triage/api.Pair,triage/api.Pair) -/
noncomputable def cloneE.body : Code := bodyOf Try.f54
noncomputable def cloneE.rs : List ResultVar := Try.f54.results.toList
def cloneE.live : List (Nat × Live) := []
noncomputable def cloneE.specs  : List (Nat × (List Bool × ISpec)) := []
noncomputable def cloneE.ospecs  : List (Nat × OS) := []
noncomputable def cloneE.cfg  : Cfg := ⟨lkp tab, lkp (cloneE.specs ), lkp cloneE.live, ⟨lkp (cloneE.ospecs ), [], none, false⟩⟩
noncomputable def cloneE.go  (m : Nat)  : R := run (cloneE.cfg ) 8 cloneE.rs m [.code cloneE.body] (enter [.c .emp])
theorem cloneE.start  (m : Nat)  : cloneE.go  (m + 1)  =
  some ((.c (.sl TPair (([] : List (El TPair)) ++ ([] : List (El TPair))))), []) := by kernel_rfl
theorem cloneE.run_eq  (m : Nat)  : run (cloneE.cfg ) Try.f54.ntmps Try.f54.results.toList m [.code (bodyOf Try.f54)] (enter [.c .emp]) = cloneE.go  m  := by kernel_rfl
theorem cloneE.ret  (hs : SpecsOK Try.prog (cloneE.specs ))   {m : Nat} {r : IV} (h : cloneE.go  m  = some (r, [])) : VE.Returns Try.prog 54 [.c .emp] r :=
  returns_of_run (cfg := cloneE.cfg ) (cfgOK_of mixed tab_ok hs .nil) rfl Try.func54 (body_some (by kernel_rfl)) (Nat.le_of_ble_eq_true (by kernel_rfl)) ((cloneE.run_eq  m ).trans h)

/-! ### slices.Clone(()triage/api.Pair,triage/api.Pair) -/
noncomputable def cloneC.body : Code := bodyOf Try.f54
noncomputable def cloneC.rs : List ResultVar := Try.f54.results.toList
def cloneC.live : List (Nat × Live) := []
noncomputable def cloneC.specs  : List (Nat × (List Bool × ISpec)) := []
noncomputable def cloneC.ospecs  : List (Nat × OS) := []
noncomputable def cloneC.cfg  : Cfg := ⟨lkp tab, lkp (cloneC.specs ), lkp cloneC.live, ⟨lkp (cloneC.ospecs ), [], none, false⟩⟩
noncomputable def cloneC.go  (m : Nat) (x0 : (El TPair)) (x1 : (List (El TPair))) : R := run (cloneC.cfg ) 8 cloneC.rs m [.code cloneC.body] (enter [.c (.sl TPair (x0 :: x1))])
theorem cloneC.start  (m : Nat) (x0 : (El TPair)) (x1 : (List (El TPair))) : cloneC.go  (m + 1) x0 x1 =
  test (decide (((List.length ([] : List (El TPair))) + (List.length (x0 :: x1))) ≤ (lim 32))) (
   some ((.c (.sl TPair (([] : List (El TPair)) ++ (x0 :: x1)))), [])) := by kernel_rfl
theorem cloneC.run_eq  (m : Nat) (x0 : (El TPair)) (x1 : (List (El TPair))) : run (cloneC.cfg ) Try.f54.ntmps Try.f54.results.toList m [.code (bodyOf Try.f54)] (enter [.c (.sl TPair (x0 :: x1))]) = cloneC.go  m x0 x1 := by kernel_rfl
theorem cloneC.ret  (hs : SpecsOK Try.prog (cloneC.specs ))  (x0 : (El TPair)) (x1 : (List (El TPair))) {m : Nat} {r : IV} (h : cloneC.go  m x0 x1 = some (r, [])) : VE.Returns Try.prog 54 [.c (.sl TPair (x0 :: x1))] r :=
  returns_of_run (cfg := cloneC.cfg ) (cfgOK_of mixed tab_ok hs .nil) rfl Try.func54 (body_some (by kernel_rfl)) (Nat.le_of_ble_eq_true (by kernel_rfl)) ((cloneC.run_eq  m x0 x1).trans h)

/-! ### triage/host.Copy -/
abbrev copy.ps : List AK := [.d true THost]
def copy.pre : ElA copy.ps → Bool := fun (x : (El THost) × Unit) => fits THost (x.1) && (true)
def copy.res : ElA copy.ps → IV := fun (x : (El THost) × Unit) => (fun h => mkIV true (enc THost h)) x.1
def copy.sp : ISpec := spOf copy.ps copy.pre copy.res
abbrev copy.OK : Prop := SpecOK Try.prog 50 copy.sp
noncomputable def copy.body : Code := bodyOf Try.f50
noncomputable def copy.rs : List ResultVar := Try.f50.results.toList
def copy.live : List (Nat × Live) := []
noncomputable def copy.specs  : List (Nat × (List Bool × ISpec)) := [(54, ([], clone.sp))]
noncomputable def copy.ospecs  : List (Nat × OS) := []
noncomputable def copy.cfg  : Cfg := ⟨lkp tab, lkp (copy.specs ), lkp copy.live, ⟨lkp (copy.ospecs ), [], none, false⟩⟩
noncomputable def copy.go  (m : Nat) (x0 : (El THost)) : R := run (copy.cfg ) 8 copy.rs m [.code copy.body] (enter (ivA copy.ps (x0, ())))
theorem copy.start  (m : Nat) (x0 : (El THost)) : copy.go  (m + 1) x0 =
  test (clone.pre (x0.2.2.2.2.2, Unit.unit)) (
   some ((.agg [(.v (.int .i64 x0.1)), (.v (.string x0.2.1)), (.v (.int .i64 x0.2.2.1)), (.v (.string x0.2.2.2.1)), (.v (.int .i64 x0.2.2.2.2.1)), (.sl TPair x0.2.2.2.2.2)]), [])) := by kernel_rfl
theorem copy.run_eq  (m : Nat) (x0 : (El THost)) : run (copy.cfg ) Try.f50.ntmps Try.f50.results.toList m [.code (bodyOf Try.f50)] (enter (ivA copy.ps (x0, ()))) = copy.go  m x0 := by kernel_rfl
theorem copy.ret  (hs : SpecsOK Try.prog (copy.specs ))  (x0 : (El THost)) {m : Nat} {r : IV} (h : copy.go  m x0 = some (r, [])) : VE.Returns Try.prog 50 (ivA copy.ps (x0, ())) r :=
  returns_of_run (cfg := copy.cfg ) (cfgOK_of mixed tab_ok hs .nil) rfl Try.func50 (body_some (by kernel_rfl)) (Nat.le_of_ble_eq_true (by kernel_rfl)) ((copy.run_eq  m x0).trans h)
abbrev copy.Law : Prop := ∀ (x0 : (El THost)), copy.pre (x0, ()) = true → VE.Returns Try.prog 50 (ivA copy.ps (x0, ())) (copy.res (x0, ()))
theorem copy.mkR (H : ∀ (x0 : (El THost)), copy.pre (x0, ()) = true → VE.Returns Try.prog 50 (ivA copy.ps (x0, ())) (copy.res (x0, ()))) : SpecOK Try.prog 50 copy.sp :=
  specOf_ret Try.func50 (by kernel_rfl) (by kernel_rfl) fun (x : (El THost) × Unit) hx => H (x.1) hx
theorem copy.mk  (hs : SpecsOK Try.prog (copy.specs ))  (H : ∀ (x0 : (El THost)), copy.pre (x0, ()) = true → ∃ m, copy.go  m x0 = some (copy.res (x0, ()), [])) : SpecOK Try.prog 50 copy.sp :=
  copy.mkR fun x0 hx => (H x0 hx).elim fun _ hm => copy.ret  hs  x0 hm

/-! ### triage/triageref1.CopyHost -/
abbrev copyR.ps : List AK := [.d true THost]
def copyR.pre : ElA copyR.ps → Bool := fun (x : (El THost) × Unit) => fits THost (x.1) && (true)
def copyR.res : ElA copyR.ps → IV := fun (x : (El THost) × Unit) => (fun h => mkIV true (enc THost h)) x.1
def copyR.sp : ISpec := spOf copyR.ps copyR.pre copyR.res
abbrev copyR.OK : Prop := SpecOK Try.prog 39 copyR.sp
noncomputable def copyR.body : Code := bodyOf Try.f39
noncomputable def copyR.rs : List ResultVar := Try.f39.results.toList
def copyR.live : List (Nat × Live) := []
noncomputable def copyR.specs  : List (Nat × (List Bool × ISpec)) := []
noncomputable def copyR.ospecs  : List (Nat × OS) := []
noncomputable def copyR.cfg  : Cfg := ⟨lkp tab, lkp (copyR.specs ), lkp copyR.live, ⟨lkp (copyR.ospecs ), [], none, false⟩⟩
noncomputable def copyR.go  (m : Nat) (x0 : (El THost)) : R := run (copyR.cfg ) 8 copyR.rs m [.code copyR.body] (enter (ivA copyR.ps (x0, ())))
theorem copyR.start  (m : Nat) (x0 : (El THost)) : copyR.go  (m + 1) x0 =
  test (decide ((List.length x0.2.2.2.2.2) ≤ (lim 32))) (
   some ((.agg [(.v (.int .i64 x0.1)), (.v (.string x0.2.1)), (.v (.int .i64 x0.2.2.1)), (.v (.string x0.2.2.2.1)), (.v (.int .i64 x0.2.2.2.2.1)), (.sl TPair x0.2.2.2.2.2)]), [])) := by kernel_rfl
theorem copyR.run_eq  (m : Nat) (x0 : (El THost)) : run (copyR.cfg ) Try.f39.ntmps Try.f39.results.toList m [.code (bodyOf Try.f39)] (enter (ivA copyR.ps (x0, ()))) = copyR.go  m x0 := by kernel_rfl
theorem copyR.ret  (hs : SpecsOK Try.prog (copyR.specs ))  (x0 : (El THost)) {m : Nat} {r : IV} (h : copyR.go  m x0 = some (r, [])) : VE.Returns Try.prog 39 (ivA copyR.ps (x0, ())) r :=
  returns_of_run (cfg := copyR.cfg ) (cfgOK_of mixed tab_ok hs .nil) rfl Try.func39 (body_some (by kernel_rfl)) (Nat.le_of_ble_eq_true (by kernel_rfl)) ((copyR.run_eq  m x0).trans h)
abbrev copyR.Law : Prop := ∀ (x0 : (El THost)), copyR.pre (x0, ()) = true → VE.Returns Try.prog 39 (ivA copyR.ps (x0, ())) (copyR.res (x0, ()))
theorem copyR.mkR (H : ∀ (x0 : (El THost)), copyR.pre (x0, ()) = true → VE.Returns Try.prog 39 (ivA copyR.ps (x0, ())) (copyR.res (x0, ()))) : SpecOK Try.prog 39 copyR.sp :=
  specOf_ret Try.func39 (by kernel_rfl) (by kernel_rfl) fun (x : (El THost) × Unit) hx => H (x.1) hx
theorem copyR.mk  (hs : SpecsOK Try.prog (copyR.specs ))  (H : ∀ (x0 : (El THost)), copyR.pre (x0, ()) = true → ∃ m, copyR.go  m x0 = some (copyR.res (x0, ()), [])) : SpecOK Try.prog 39 copyR.sp :=
  copyR.mkR fun x0 hx => (H x0 hx).elim fun _ hm => copyR.ret  hs  x0 hm

/-! ### triage/triagelaw7.Light -/
abbrev light.ps : List AK := [.d true THost]
def light.pre : ElA light.ps → Bool := fun (x : (El THost) × Unit) => fits THost (x.1) && (true)
def light.res : ElA light.ps → IV := fun (x : (El THost) × Unit) => (fun h => vi .i64 (lightI h)) x.1
def light.sp : ISpec := spOf light.ps light.pre light.res
abbrev light.OK : Prop := SpecOK Try.prog 9 light.sp
noncomputable def light.body : Code := bodyOf Try.f9
noncomputable def light.rs : List ResultVar := Try.f9.results.toList
def light.live : List (Nat × Live) := [(3, ⟨[(3, .plain), (14, .sl TPair), (15, .plain), (16, .plain)], []⟩)]
noncomputable def light.specs  : List (Nat × (List Bool × ISpec)) := []
noncomputable def light.ospecs  : List (Nat × OS) := []
noncomputable def light.cfg  : Cfg := ⟨lkp tab, lkp (light.specs ), lkp light.live, ⟨lkp (light.ospecs ), [], none, false⟩⟩
noncomputable def light.l1  (m : Nat) (x0 : Int) (x1 : List (El TPair)) (x2 : Int) (x3 : Int) : R := run (light.cfg ) 33 light.rs m ((todoR 3 light.body []).getD []) ⟨ofList (.c .junk) [(3, (.c (.v (.int .i64 x0)))), (14, (.c (.sl TPair x1))), (15, (.c (.v (.int .i64 x2)))), (16, (.c (.v (.int .i64 x3))))], ofList none [], ofList false []⟩
noncomputable def light.go  (m : Nat) (x0 : (El THost)) : R := run (light.cfg ) 33 light.rs m [.code light.body] (enter (ivA light.ps (x0, ())))
theorem light.start  (m : Nat) (x0 : (El THost)) : light.go  (m + 1) x0 =
  light.l1  m (IntKind.i64.wrap (((ByteArray.size x0.2.1) : Int) + ((ByteArray.size x0.2.2.2.1) : Int))) x0.2.2.2.2.2 ((List.length x0.2.2.2.2.2) : Int) (0 : Int) := by kernel_rfl
theorem light.s1  (m : Nat) (x0 : Int) (x1 : List (El TPair)) (x2 : Int) (x3 : Int) : light.l1  (m + 1) x0 x1 x2 x3 =
  cond (decide (x3 < x2)) (
   test (decide ((0 : Int) ≤ x3)) (
    test (decide (x3 < ((List.length x1) : Int))) (
     light.l1  m (IntKind.i64.wrap (x0 + (IntKind.i64.wrap ((IntKind.i64.wrap ((1 : Int) + ((ByteArray.size ((rdEl TPair x1 (Int.toNat x3))).1) : Int))) + ((ByteArray.size ((rdEl TPair x1 (Int.toNat x3))).2) : Int))))) x1 x2 (IntKind.i64.wrap (x3 + (1 : Int)))))) (
   cond (decide (x0 > (600 : Int))) (
    some ((.c (.v (.int .i64 (1 : Int)))), [])) (
    some ((.c (.v (.int .i64 (0 : Int)))), []))) := by kernel_rfl
theorem light.run_eq  (m : Nat) (x0 : (El THost)) : run (light.cfg ) Try.f9.ntmps Try.f9.results.toList m [.code (bodyOf Try.f9)] (enter (ivA light.ps (x0, ()))) = light.go  m x0 := by kernel_rfl
theorem light.ret  (hs : SpecsOK Try.prog (light.specs ))  (x0 : (El THost)) {m : Nat} {r : IV} (h : light.go  m x0 = some (r, [])) : VE.Returns Try.prog 9 (ivA light.ps (x0, ())) r :=
  returns_of_run (cfg := light.cfg ) (cfgOK_of mixed tab_ok hs .nil) rfl Try.func9 (body_some (by kernel_rfl)) (Nat.le_of_ble_eq_true (by kernel_rfl)) ((light.run_eq  m x0).trans h)
abbrev light.Law : Prop := ∀ (x0 : (El THost)), light.pre (x0, ()) = true → VE.Returns Try.prog 9 (ivA light.ps (x0, ())) (light.res (x0, ()))
theorem light.mkR (H : ∀ (x0 : (El THost)), light.pre (x0, ()) = true → VE.Returns Try.prog 9 (ivA light.ps (x0, ())) (light.res (x0, ()))) : SpecOK Try.prog 9 light.sp :=
  specOf_ret Try.func9 (by kernel_rfl) (by kernel_rfl) fun (x : (El THost) × Unit) hx => H (x.1) hx
theorem light.mk  (hs : SpecsOK Try.prog (light.specs ))  (H : ∀ (x0 : (El THost)), light.pre (x0, ()) = true → ∃ m, light.go  m x0 = some (light.res (x0, ()), [])) : SpecOK Try.prog 9 light.sp :=
  light.mkR fun x0 hx => (H x0 hx).elim fun _ hm => light.ret  hs  x0 hm

/-! ### triage/probe.Well -/
abbrev well.ps : List AK := [.d true TQ]
def well.pre : ElA well.ps → Bool := fun (x : (El TQ) × Unit) => fits TQ (x.1) && (true)
def well.res : ElA well.ps → IV := fun (x : (El TQ) × Unit) => (fun p => vb (wellB p)) x.1
def well.sp : ISpec := spOf well.ps well.pre well.res
abbrev well.OK : Prop := SpecOK Try.prog 47 well.sp
noncomputable def well.body : Code := bodyOf Try.f47
noncomputable def well.rs : List ResultVar := Try.f47.results.toList
def well.live : List (Nat × Live) := []
noncomputable def well.specs  : List (Nat × (List Bool × ISpec)) := []
noncomputable def well.ospecs  : List (Nat × OS) := []
noncomputable def well.cfg  : Cfg := ⟨lkp tab, lkp (well.specs ), lkp well.live, ⟨lkp (well.ospecs ), [], none, false⟩⟩
noncomputable def well.go  (m : Nat) (x0 : (El TQ)) : R := run (well.cfg ) 15 well.rs m [.code well.body] (enter (ivA well.ps (x0, ())))
theorem well.start  (m : Nat) (x0 : (El TQ)) : well.go  (m + 1) x0 =
  cond (x0.2.2.1 == (2 : Int)) (
   some ((.c (.v (.bool true))), [])) (
   cond (x0.2.2.1 == (0 : Int)) (
    some ((.c (.v (.bool x0.1))), [])) (
    some ((.c (.v (.bool false))), []))) := by kernel_rfl
theorem well.run_eq  (m : Nat) (x0 : (El TQ)) : run (well.cfg ) Try.f47.ntmps Try.f47.results.toList m [.code (bodyOf Try.f47)] (enter (ivA well.ps (x0, ()))) = well.go  m x0 := by kernel_rfl
theorem well.ret  (hs : SpecsOK Try.prog (well.specs ))  (x0 : (El TQ)) {m : Nat} {r : IV} (h : well.go  m x0 = some (r, [])) : VE.Returns Try.prog 47 (ivA well.ps (x0, ())) r :=
  returns_of_run (cfg := well.cfg ) (cfgOK_of mixed tab_ok hs .nil) rfl Try.func47 (body_some (by kernel_rfl)) (Nat.le_of_ble_eq_true (by kernel_rfl)) ((well.run_eq  m x0).trans h)
abbrev well.Law : Prop := ∀ (x0 : (El TQ)), well.pre (x0, ()) = true → VE.Returns Try.prog 47 (ivA well.ps (x0, ())) (well.res (x0, ()))
theorem well.mkR (H : ∀ (x0 : (El TQ)), well.pre (x0, ()) = true → VE.Returns Try.prog 47 (ivA well.ps (x0, ())) (well.res (x0, ()))) : SpecOK Try.prog 47 well.sp :=
  specOf_ret Try.func47 (by kernel_rfl) (by kernel_rfl) fun (x : (El TQ) × Unit) hx => H (x.1) hx
theorem well.mk  (hs : SpecsOK Try.prog (well.specs ))  (H : ∀ (x0 : (El TQ)), well.pre (x0, ()) = true → ∃ m, well.go  m x0 = some (well.res (x0, ()), [])) : SpecOK Try.prog 47 well.sp :=
  well.mkR fun x0 hx => (H x0 hx).elim fun _ hm => well.ret  hs  x0 hm

/-! ### triage/triageref10.Well -/
abbrev wellR.ps : List AK := [.d true TQ]
def wellR.pre : ElA wellR.ps → Bool := fun (x : (El TQ) × Unit) => fits TQ (x.1) && (true)
def wellR.res : ElA wellR.ps → IV := fun (x : (El TQ) × Unit) => (fun p => vb (wellB p)) x.1
def wellR.sp : ISpec := spOf wellR.ps wellR.pre wellR.res
abbrev wellR.OK : Prop := SpecOK Try.prog 37 wellR.sp
noncomputable def wellR.body : Code := bodyOf Try.f37
noncomputable def wellR.rs : List ResultVar := Try.f37.results.toList
def wellR.live : List (Nat × Live) := []
noncomputable def wellR.specs  : List (Nat × (List Bool × ISpec)) := []
noncomputable def wellR.ospecs  : List (Nat × OS) := []
noncomputable def wellR.cfg  : Cfg := ⟨lkp tab, lkp (wellR.specs ), lkp wellR.live, ⟨lkp (wellR.ospecs ), [], none, false⟩⟩
noncomputable def wellR.go  (m : Nat) (x0 : (El TQ)) : R := run (wellR.cfg ) 15 wellR.rs m [.code wellR.body] (enter (ivA wellR.ps (x0, ())))
theorem wellR.start  (m : Nat) (x0 : (El TQ)) : wellR.go  (m + 1) x0 =
  cond (x0.2.2.1 == (2 : Int)) (
   some ((.c (.v (.bool true))), [])) (
   cond (x0.2.2.1 == (0 : Int)) (
    some ((.c (.v (.bool x0.1))), [])) (
    some ((.c (.v (.bool false))), []))) := by kernel_rfl
theorem wellR.run_eq  (m : Nat) (x0 : (El TQ)) : run (wellR.cfg ) Try.f37.ntmps Try.f37.results.toList m [.code (bodyOf Try.f37)] (enter (ivA wellR.ps (x0, ()))) = wellR.go  m x0 := by kernel_rfl
theorem wellR.ret  (hs : SpecsOK Try.prog (wellR.specs ))  (x0 : (El TQ)) {m : Nat} {r : IV} (h : wellR.go  m x0 = some (r, [])) : VE.Returns Try.prog 37 (ivA wellR.ps (x0, ())) r :=
  returns_of_run (cfg := wellR.cfg ) (cfgOK_of mixed tab_ok hs .nil) rfl Try.func37 (body_some (by kernel_rfl)) (Nat.le_of_ble_eq_true (by kernel_rfl)) ((wellR.run_eq  m x0).trans h)
abbrev wellR.Law : Prop := ∀ (x0 : (El TQ)), wellR.pre (x0, ()) = true → VE.Returns Try.prog 37 (ivA wellR.ps (x0, ())) (wellR.res (x0, ()))
theorem wellR.mkR (H : ∀ (x0 : (El TQ)), wellR.pre (x0, ()) = true → VE.Returns Try.prog 37 (ivA wellR.ps (x0, ())) (wellR.res (x0, ()))) : SpecOK Try.prog 37 wellR.sp :=
  specOf_ret Try.func37 (by kernel_rfl) (by kernel_rfl) fun (x : (El TQ) × Unit) hx => H (x.1) hx
theorem wellR.mk  (hs : SpecsOK Try.prog (wellR.specs ))  (H : ∀ (x0 : (El TQ)), wellR.pre (x0, ()) = true → ∃ m, wellR.go  m x0 = some (wellR.res (x0, ()), [])) : SpecOK Try.prog 37 wellR.sp :=
  wellR.mkR fun x0 hx => (H x0 hx).elim fun _ hm => wellR.ret  hs  x0 hm

/-! ### triage/triageref10.time -/
abbrev timeR.ps : List AK := [.d false (.int .i64)]
def timeR.pre : ElA timeR.ps → Bool := fun (x : Int × Unit) => fits (.int .i64) (x.1) && (true)
def timeR.res : ElA timeR.ps → IV := fun (x : Int × Unit) => (fun n => vi .i64 (timeI n)) x.1
def timeR.sp : ISpec := spOf timeR.ps timeR.pre timeR.res
abbrev timeR.OK : Prop := SpecOK Try.prog 40 timeR.sp
noncomputable def timeR.body : Code := bodyOf Try.f40
noncomputable def timeR.rs : List ResultVar := Try.f40.results.toList
def timeR.live : List (Nat × Live) := []
noncomputable def timeR.specs  : List (Nat × (List Bool × ISpec)) := []
noncomputable def timeR.ospecs  : List (Nat × OS) := []
noncomputable def timeR.cfg  : Cfg := ⟨lkp tab, lkp (timeR.specs ), lkp timeR.live, ⟨lkp (timeR.ospecs ), [], none, false⟩⟩
noncomputable def timeR.go  (m : Nat) (x0 : Int) : R := run (timeR.cfg ) 6 timeR.rs m [.code timeR.body] (enter (ivA timeR.ps (x0, ())))
theorem timeR.start  (m : Nat) (x0 : Int) : timeR.go  (m + 1) x0 =
  some ((.c (.v (.int .i64 (ite ((ite ((4611686018427387904 : Int) < x0) (4611686018427387904 : Int) x0) > (0 : Int)) (ite ((4611686018427387904 : Int) < x0) (4611686018427387904 : Int) x0) (0 : Int))))), []) := by kernel_rfl
theorem timeR.run_eq  (m : Nat) (x0 : Int) : run (timeR.cfg ) Try.f40.ntmps Try.f40.results.toList m [.code (bodyOf Try.f40)] (enter (ivA timeR.ps (x0, ()))) = timeR.go  m x0 := by kernel_rfl
theorem timeR.ret  (hs : SpecsOK Try.prog (timeR.specs ))  (x0 : Int) {m : Nat} {r : IV} (h : timeR.go  m x0 = some (r, [])) : VE.Returns Try.prog 40 (ivA timeR.ps (x0, ())) r :=
  returns_of_run (cfg := timeR.cfg ) (cfgOK_of mixed tab_ok hs .nil) rfl Try.func40 (body_some (by kernel_rfl)) (Nat.le_of_ble_eq_true (by kernel_rfl)) ((timeR.run_eq  m x0).trans h)
abbrev timeR.Law : Prop := ∀ (x0 : Int), timeR.pre (x0, ()) = true → VE.Returns Try.prog 40 (ivA timeR.ps (x0, ())) (timeR.res (x0, ()))
theorem timeR.mkR (H : ∀ (x0 : Int), timeR.pre (x0, ()) = true → VE.Returns Try.prog 40 (ivA timeR.ps (x0, ())) (timeR.res (x0, ()))) : SpecOK Try.prog 40 timeR.sp :=
  specOf_ret Try.func40 (by kernel_rfl) (by kernel_rfl) fun (x : Int × Unit) hx => H (x.1) hx
theorem timeR.mk  (hs : SpecsOK Try.prog (timeR.specs ))  (H : ∀ (x0 : Int), timeR.pre (x0, ()) = true → ∃ m, timeR.go  m x0 = some (timeR.res (x0, ()), [])) : SpecOK Try.prog 40 timeR.sp :=
  timeR.mkR fun x0 hx => (H x0 hx).elim fun _ hm => timeR.ret  hs  x0 hm

/-! ### triage/state.Free -/
abbrev free.ps : List AK := [.d true TStatus]
def free.pre : ElA free.ps → Bool := fun (x : (El TStatus) × Unit) => fits TStatus (x.1) && (true)
def free.res : ElA free.ps → IV := fun (x : (El TStatus) × Unit) => (fun s => vb (freeB s)) x.1
def free.sp : ISpec := spOf free.ps free.pre free.res
abbrev free.OK : Prop := SpecOK Try.prog 33 free.sp
noncomputable def free.body : Code := bodyOf Try.f33
noncomputable def free.rs : List ResultVar := Try.f33.results.toList
def free.live : List (Nat × Live) := []
noncomputable def free.specs  : List (Nat × (List Bool × ISpec)) := [(47, ([], well.sp))]
noncomputable def free.ospecs  : List (Nat × OS) := []
noncomputable def free.cfg  : Cfg := ⟨lkp tab, lkp (free.specs ), lkp free.live, ⟨lkp (free.ospecs ), [], none, false⟩⟩
noncomputable def free.go  (m : Nat) (x0 : (El TStatus)) : R := run (free.cfg ) 17 free.rs m [.code free.body] (enter (ivA free.ps (x0, ())))
theorem free.start  (m : Nat) (x0 : (El TStatus)) : free.go  (m + 1) x0 =
  cond (Bool.not x0.2.2.2.2.2.1) (
   cond (wellB x0.2.1) (
    some ((.c (.v (.bool (Bool.not x0.2.2.2.2.1.1)))), [])) (
    some ((.c (.v (.bool false))), []))) (
   some ((.c (.v (.bool false))), [])) := by kernel_rfl
theorem free.run_eq  (m : Nat) (x0 : (El TStatus)) : run (free.cfg ) Try.f33.ntmps Try.f33.results.toList m [.code (bodyOf Try.f33)] (enter (ivA free.ps (x0, ()))) = free.go  m x0 := by kernel_rfl
theorem free.ret  (hs : SpecsOK Try.prog (free.specs ))  (x0 : (El TStatus)) {m : Nat} {r : IV} (h : free.go  m x0 = some (r, [])) : VE.Returns Try.prog 33 (ivA free.ps (x0, ())) r :=
  returns_of_run (cfg := free.cfg ) (cfgOK_of mixed tab_ok hs .nil) rfl Try.func33 (body_some (by kernel_rfl)) (Nat.le_of_ble_eq_true (by kernel_rfl)) ((free.run_eq  m x0).trans h)
abbrev free.Law : Prop := ∀ (x0 : (El TStatus)), free.pre (x0, ()) = true → VE.Returns Try.prog 33 (ivA free.ps (x0, ())) (free.res (x0, ()))
theorem free.mkR (H : ∀ (x0 : (El TStatus)), free.pre (x0, ()) = true → VE.Returns Try.prog 33 (ivA free.ps (x0, ())) (free.res (x0, ()))) : SpecOK Try.prog 33 free.sp :=
  specOf_ret Try.func33 (by kernel_rfl) (by kernel_rfl) fun (x : (El TStatus) × Unit) hx => H (x.1) hx
theorem free.mk  (hs : SpecsOK Try.prog (free.specs ))  (H : ∀ (x0 : (El TStatus)), free.pre (x0, ()) = true → ∃ m, free.go  m x0 = some (free.res (x0, ()), [])) : SpecOK Try.prog 33 free.sp :=
  free.mkR fun x0 hx => (H x0 hx).elim fun _ hm => free.ret  hs  x0 hm

/-! ### triage/triageref10.Free -/
abbrev freeR.ps : List AK := [.d true TStatus]
def freeR.pre : ElA freeR.ps → Bool := fun (x : (El TStatus) × Unit) => fits TStatus (x.1) && (true)
def freeR.res : ElA freeR.ps → IV := fun (x : (El TStatus) × Unit) => (fun s => vb (freeB s)) x.1
def freeR.sp : ISpec := spOf freeR.ps freeR.pre freeR.res
abbrev freeR.OK : Prop := SpecOK Try.prog 22 freeR.sp
noncomputable def freeR.body : Code := bodyOf Try.f22
noncomputable def freeR.rs : List ResultVar := Try.f22.results.toList
def freeR.live : List (Nat × Live) := []
noncomputable def freeR.specs  : List (Nat × (List Bool × ISpec)) := [(37, ([], wellR.sp))]
noncomputable def freeR.ospecs  : List (Nat × OS) := []
noncomputable def freeR.cfg  : Cfg := ⟨lkp tab, lkp (freeR.specs ), lkp freeR.live, ⟨lkp (freeR.ospecs ), [], none, false⟩⟩
noncomputable def freeR.go  (m : Nat) (x0 : (El TStatus)) : R := run (freeR.cfg ) 17 freeR.rs m [.code freeR.body] (enter (ivA freeR.ps (x0, ())))
theorem freeR.start  (m : Nat) (x0 : (El TStatus)) : freeR.go  (m + 1) x0 =
  cond (Bool.not x0.2.2.2.2.2.1) (
   cond (wellB x0.2.1) (
    some ((.c (.v (.bool (Bool.not x0.2.2.2.2.1.1)))), [])) (
    some ((.c (.v (.bool false))), []))) (
   some ((.c (.v (.bool false))), [])) := by kernel_rfl
theorem freeR.run_eq  (m : Nat) (x0 : (El TStatus)) : run (freeR.cfg ) Try.f22.ntmps Try.f22.results.toList m [.code (bodyOf Try.f22)] (enter (ivA freeR.ps (x0, ()))) = freeR.go  m x0 := by kernel_rfl
theorem freeR.ret  (hs : SpecsOK Try.prog (freeR.specs ))  (x0 : (El TStatus)) {m : Nat} {r : IV} (h : freeR.go  m x0 = some (r, [])) : VE.Returns Try.prog 22 (ivA freeR.ps (x0, ())) r :=
  returns_of_run (cfg := freeR.cfg ) (cfgOK_of mixed tab_ok hs .nil) rfl Try.func22 (body_some (by kernel_rfl)) (Nat.le_of_ble_eq_true (by kernel_rfl)) ((freeR.run_eq  m x0).trans h)
abbrev freeR.Law : Prop := ∀ (x0 : (El TStatus)), freeR.pre (x0, ()) = true → VE.Returns Try.prog 22 (ivA freeR.ps (x0, ())) (freeR.res (x0, ()))
theorem freeR.mkR (H : ∀ (x0 : (El TStatus)), freeR.pre (x0, ()) = true → VE.Returns Try.prog 22 (ivA freeR.ps (x0, ())) (freeR.res (x0, ()))) : SpecOK Try.prog 22 freeR.sp :=
  specOf_ret Try.func22 (by kernel_rfl) (by kernel_rfl) fun (x : (El TStatus) × Unit) hx => H (x.1) hx
theorem freeR.mk  (hs : SpecsOK Try.prog (freeR.specs ))  (H : ∀ (x0 : (El TStatus)), freeR.pre (x0, ()) = true → ∃ m, freeR.go  m x0 = some (freeR.res (x0, ()), [])) : SpecOK Try.prog 22 freeR.sp :=
  freeR.mkR fun x0 hx => (H x0 hx).elim fun _ hm => freeR.ret  hs  x0 hm

/-! ### triage/triageref10.NewStatus -/
abbrev newR.ps : List AK := [.d true THost, .d false (.int .i64)]
def newR.pre : ElA newR.ps → Bool := fun (x : (El THost) × Int × Unit) => fits THost (x.1) && (fits (.int .i64) (x.2.1) && (true))
def newR.res : ElA newR.ps → IV := fun (x : (El THost) × Int × Unit) => (fun h n => mkIV true (enc TStatus (newB h n))) x.1 x.2.1
def newR.sp : ISpec := spOf newR.ps newR.pre newR.res
abbrev newR.OK : Prop := SpecOK Try.prog 26 newR.sp
noncomputable def newR.body : Code := bodyOf Try.f26
noncomputable def newR.rs : List ResultVar := Try.f26.results.toList
def newR.live : List (Nat × Live) := []
noncomputable def newR.specs  : List (Nat × (List Bool × ISpec)) := [(39, ([], copyR.sp)), (40, ([], timeR.sp))]
noncomputable def newR.ospecs  : List (Nat × OS) := []
noncomputable def newR.cfg  : Cfg := ⟨lkp tab, lkp (newR.specs ), lkp newR.live, ⟨lkp (newR.ospecs ), [], none, false⟩⟩
noncomputable def newR.go  (m : Nat) (x0 : (El THost)) (x1 : Int) : R := run (newR.cfg ) 11 newR.rs m [.code newR.body] (enter (ivA newR.ps (x0, x1, ())))
theorem newR.start  (m : Nat) (x0 : (El THost)) (x1 : Int) : newR.go  (m + 1) x0 x1 =
  test (copyR.pre (x0, Unit.unit)) (
   some ((.agg [(.v (.int .i64 x0.1)), (.v (.string x0.2.1)), (.v (.int .i64 x0.2.2.1)), (.v (.string x0.2.2.2.1)), (.v (.int .i64 x0.2.2.2.2.1)), (.sl TPair x0.2.2.2.2.2), (.v (.bool true)), (.v (.int .i64 (0 : Int))), (.v (.int .i64 (0 : Int))), (.v (.int .i64 (0 : Int))), (.v (.int .i64 (0 : Int))), (.v (.int .i64 (0 : Int))), (.v (.int .i64 (0 : Int))), (.v (.bool false)), (.v (.int .i64 (0 : Int))), (.v (.int .i64 (0 : Int))), (.v (.int .i64 (0 : Int))), (.v (.bool false)), (.v (.int .i64 (0 : Int))), (.v (.int .i64 (timeI x1))), (.v (.int .i64 (0 : Int)))]), [])) := by kernel_rfl
theorem newR.run_eq  (m : Nat) (x0 : (El THost)) (x1 : Int) : run (newR.cfg ) Try.f26.ntmps Try.f26.results.toList m [.code (bodyOf Try.f26)] (enter (ivA newR.ps (x0, x1, ()))) = newR.go  m x0 x1 := by kernel_rfl
theorem newR.ret  (hs : SpecsOK Try.prog (newR.specs ))  (x0 : (El THost)) (x1 : Int) {m : Nat} {r : IV} (h : newR.go  m x0 x1 = some (r, [])) : VE.Returns Try.prog 26 (ivA newR.ps (x0, x1, ())) r :=
  returns_of_run (cfg := newR.cfg ) (cfgOK_of mixed tab_ok hs .nil) rfl Try.func26 (body_some (by kernel_rfl)) (Nat.le_of_ble_eq_true (by kernel_rfl)) ((newR.run_eq  m x0 x1).trans h)
abbrev newR.Law : Prop := ∀ (x0 : (El THost)) (x1 : Int), newR.pre (x0, x1, ()) = true → VE.Returns Try.prog 26 (ivA newR.ps (x0, x1, ())) (newR.res (x0, x1, ()))
theorem newR.mkR (H : ∀ (x0 : (El THost)) (x1 : Int), newR.pre (x0, x1, ()) = true → VE.Returns Try.prog 26 (ivA newR.ps (x0, x1, ())) (newR.res (x0, x1, ()))) : SpecOK Try.prog 26 newR.sp :=
  specOf_ret Try.func26 (by kernel_rfl) (by kernel_rfl) fun (x : (El THost) × Int × Unit) hx => H (x.1) (x.2.1) hx
theorem newR.mk  (hs : SpecsOK Try.prog (newR.specs ))  (H : ∀ (x0 : (El THost)) (x1 : Int), newR.pre (x0, x1, ()) = true → ∃ m, newR.go  m x0 x1 = some (newR.res (x0, x1, ()), [])) : SpecOK Try.prog 26 newR.sp :=
  newR.mkR fun x0 x1 hx => (H x0 x1 hx).elim fun _ hm => newR.ret  hs  x0 x1 hm

/-! ### triage/triageref10.CopyOne -/
abbrev copyOne.ps : List AK := [.d true TStatus]
def copyOne.pre : ElA copyOne.ps → Bool := fun (x : (El TStatus) × Unit) => fits TStatus (x.1) && (true)
def copyOne.res : ElA copyOne.ps → IV := fun (x : (El TStatus) × Unit) => (fun s => mkIV true (enc TStatus s)) x.1
def copyOne.sp : ISpec := spOf copyOne.ps copyOne.pre copyOne.res
abbrev copyOne.OK : Prop := SpecOK Try.prog 32 copyOne.sp
noncomputable def copyOne.body : Code := bodyOf Try.f32
noncomputable def copyOne.rs : List ResultVar := Try.f32.results.toList
def copyOne.live : List (Nat × Live) := []
noncomputable def copyOne.specs  : List (Nat × (List Bool × ISpec)) := [(39, ([], copyR.sp))]
noncomputable def copyOne.ospecs  : List (Nat × OS) := []
noncomputable def copyOne.cfg  : Cfg := ⟨lkp tab, lkp (copyOne.specs ), lkp copyOne.live, ⟨lkp (copyOne.ospecs ), [], none, false⟩⟩
noncomputable def copyOne.go  (m : Nat) (x0 : (El TStatus)) : R := run (copyOne.cfg ) 8 copyOne.rs m [.code copyOne.body] (enter (ivA copyOne.ps (x0, ())))
theorem copyOne.start  (m : Nat) (x0 : (El TStatus)) : copyOne.go  (m + 1) x0 =
  test (copyR.pre (x0.1, Unit.unit)) (
   some ((.agg [(.v (.int .i64 x0.1.1)), (.v (.string x0.1.2.1)), (.v (.int .i64 x0.1.2.2.1)), (.v (.string x0.1.2.2.2.1)), (.v (.int .i64 x0.1.2.2.2.2.1)), (.sl TPair x0.1.2.2.2.2.2), (.v (.bool x0.2.1.1)), (.v (.int .i64 x0.2.1.2.1)), (.v (.int .i64 x0.2.1.2.2.1)), (.v (.int .i64 x0.2.1.2.2.2)), (.v (.int .i64 x0.2.2.1)), (.v (.int .i64 x0.2.2.2.1.1)), (.v (.int .i64 x0.2.2.2.1.2)), (.v (.bool x0.2.2.2.2.1.1)), (.v (.int .i64 x0.2.2.2.2.1.2.1)), (.v (.int .i64 x0.2.2.2.2.1.2.2.1)), (.v (.int .i64 x0.2.2.2.2.1.2.2.2)), (.v (.bool x0.2.2.2.2.2.1)), (.v (.int .i64 x0.2.2.2.2.2.2.1)), (.v (.int .i64 x0.2.2.2.2.2.2.2.1)), (.v (.int .i64 x0.2.2.2.2.2.2.2.2))]), [])) := by kernel_rfl
theorem copyOne.run_eq  (m : Nat) (x0 : (El TStatus)) : run (copyOne.cfg ) Try.f32.ntmps Try.f32.results.toList m [.code (bodyOf Try.f32)] (enter (ivA copyOne.ps (x0, ()))) = copyOne.go  m x0 := by kernel_rfl
theorem copyOne.ret  (hs : SpecsOK Try.prog (copyOne.specs ))  (x0 : (El TStatus)) {m : Nat} {r : IV} (h : copyOne.go  m x0 = some (r, [])) : VE.Returns Try.prog 32 (ivA copyOne.ps (x0, ())) r :=
  returns_of_run (cfg := copyOne.cfg ) (cfgOK_of mixed tab_ok hs .nil) rfl Try.func32 (body_some (by kernel_rfl)) (Nat.le_of_ble_eq_true (by kernel_rfl)) ((copyOne.run_eq  m x0).trans h)
abbrev copyOne.Law : Prop := ∀ (x0 : (El TStatus)), copyOne.pre (x0, ()) = true → VE.Returns Try.prog 32 (ivA copyOne.ps (x0, ())) (copyOne.res (x0, ()))
theorem copyOne.mkR (H : ∀ (x0 : (El TStatus)), copyOne.pre (x0, ()) = true → VE.Returns Try.prog 32 (ivA copyOne.ps (x0, ())) (copyOne.res (x0, ()))) : SpecOK Try.prog 32 copyOne.sp :=
  specOf_ret Try.func32 (by kernel_rfl) (by kernel_rfl) fun (x : (El TStatus) × Unit) hx => H (x.1) hx
theorem copyOne.mk  (hs : SpecsOK Try.prog (copyOne.specs ))  (H : ∀ (x0 : (El TStatus)), copyOne.pre (x0, ()) = true → ∃ m, copyOne.go  m x0 = some (copyOne.res (x0, ()), [])) : SpecOK Try.prog 32 copyOne.sp :=
  copyOne.mkR fun x0 hx => (H x0 hx).elim fun _ hm => copyOne.ret  hs  x0 hm

/-! ### triage/state.Members$1 -/
abbrev memF.ps : List AK := [.d true TStatus]
def memF.pre : ElA memF.ps → Bool := fun (x : (El TStatus) × Unit) => fits TStatus (x.1) && (true)
def memF.res : ElA memF.ps → IV := fun (x : (El TStatus) × Unit) => (fun s => vb (memB s)) x.1
def memF.sp : ISpec := spOf memF.ps memF.pre memF.res
abbrev memF.OK : Prop := SpecOK Try.prog 42 memF.sp
noncomputable def memF.body : Code := bodyOf Try.f42
noncomputable def memF.rs : List ResultVar := Try.f42.results.toList
def memF.live : List (Nat × Live) := []
noncomputable def memF.specs  : List (Nat × (List Bool × ISpec)) := []
noncomputable def memF.ospecs  : List (Nat × OS) := []
noncomputable def memF.cfg  : Cfg := ⟨lkp tab, lkp (memF.specs ), lkp memF.live, ⟨lkp (memF.ospecs ), [], none, false⟩⟩
noncomputable def memF.go  (m : Nat) (x0 : (El TStatus)) : R := run (memF.cfg ) 6 memF.rs m [.code memF.body] (enter (ivA memF.ps (x0, ())))
theorem memF.start  (m : Nat) (x0 : (El TStatus)) : memF.go  (m + 1) x0 =
  some ((.c (.v (.bool (Bool.not x0.2.2.2.2.2.1)))), []) := by kernel_rfl
theorem memF.run_eq  (m : Nat) (x0 : (El TStatus)) : run (memF.cfg ) Try.f42.ntmps Try.f42.results.toList m [.code (bodyOf Try.f42)] (enter (ivA memF.ps (x0, ()))) = memF.go  m x0 := by kernel_rfl
theorem memF.ret  (hs : SpecsOK Try.prog (memF.specs ))  (x0 : (El TStatus)) {m : Nat} {r : IV} (h : memF.go  m x0 = some (r, [])) : VE.Returns Try.prog 42 (ivA memF.ps (x0, ())) r :=
  returns_of_run (cfg := memF.cfg ) (cfgOK_of mixed tab_ok hs .nil) rfl Try.func42 (body_some (by kernel_rfl)) (Nat.le_of_ble_eq_true (by kernel_rfl)) ((memF.run_eq  m x0).trans h)
abbrev memF.Law : Prop := ∀ (x0 : (El TStatus)), memF.pre (x0, ()) = true → VE.Returns Try.prog 42 (ivA memF.ps (x0, ())) (memF.res (x0, ()))
theorem memF.mkR (H : ∀ (x0 : (El TStatus)), memF.pre (x0, ()) = true → VE.Returns Try.prog 42 (ivA memF.ps (x0, ())) (memF.res (x0, ()))) : SpecOK Try.prog 42 memF.sp :=
  specOf_ret Try.func42 (by kernel_rfl) (by kernel_rfl) fun (x : (El TStatus) × Unit) hx => H (x.1) hx
theorem memF.mk  (hs : SpecsOK Try.prog (memF.specs ))  (H : ∀ (x0 : (El TStatus)), memF.pre (x0, ()) = true → ∃ m, memF.go  m x0 = some (memF.res (x0, ()), [])) : SpecOK Try.prog 42 memF.sp :=
  memF.mkR fun x0 hx => (H x0 hx).elim fun _ hm => memF.ret  hs  x0 hm

/-! ### triage/state.Copy$1 -/
abbrev allF.ps : List AK := [.d true TStatus]
def allF.pre : ElA allF.ps → Bool := fun (x : (El TStatus) × Unit) => fits TStatus (x.1) && (true)
def allF.res : ElA allF.ps → IV := fun (x : (El TStatus) × Unit) => (fun _ => vb true) x.1
def allF.sp : ISpec := spOf allF.ps allF.pre allF.res
abbrev allF.OK : Prop := SpecOK Try.prog 52 allF.sp
noncomputable def allF.body : Code := bodyOf Try.f52
noncomputable def allF.rs : List ResultVar := Try.f52.results.toList
def allF.live : List (Nat × Live) := []
noncomputable def allF.specs  : List (Nat × (List Bool × ISpec)) := []
noncomputable def allF.ospecs  : List (Nat × OS) := []
noncomputable def allF.cfg  : Cfg := ⟨lkp tab, lkp (allF.specs ), lkp allF.live, ⟨lkp (allF.ospecs ), [], none, false⟩⟩
noncomputable def allF.go  (m : Nat) (x0 : (El TStatus)) : R := run (allF.cfg ) 3 allF.rs m [.code allF.body] (enter (ivA allF.ps (x0, ())))
theorem allF.start  (m : Nat) (x0 : (El TStatus)) : allF.go  (m + 1) x0 =
  some ((.c (.v (.bool true))), []) := by kernel_rfl
theorem allF.run_eq  (m : Nat) (x0 : (El TStatus)) : run (allF.cfg ) Try.f52.ntmps Try.f52.results.toList m [.code (bodyOf Try.f52)] (enter (ivA allF.ps (x0, ()))) = allF.go  m x0 := by kernel_rfl
theorem allF.ret  (hs : SpecsOK Try.prog (allF.specs ))  (x0 : (El TStatus)) {m : Nat} {r : IV} (h : allF.go  m x0 = some (r, [])) : VE.Returns Try.prog 52 (ivA allF.ps (x0, ())) r :=
  returns_of_run (cfg := allF.cfg ) (cfgOK_of mixed tab_ok hs .nil) rfl Try.func52 (body_some (by kernel_rfl)) (Nat.le_of_ble_eq_true (by kernel_rfl)) ((allF.run_eq  m x0).trans h)
abbrev allF.Law : Prop := ∀ (x0 : (El TStatus)), allF.pre (x0, ()) = true → VE.Returns Try.prog 52 (ivA allF.ps (x0, ())) (allF.res (x0, ()))
theorem allF.mkR (H : ∀ (x0 : (El TStatus)), allF.pre (x0, ()) = true → VE.Returns Try.prog 52 (ivA allF.ps (x0, ())) (allF.res (x0, ()))) : SpecOK Try.prog 52 allF.sp :=
  specOf_ret Try.func52 (by kernel_rfl) (by kernel_rfl) fun (x : (El TStatus) × Unit) hx => H (x.1) hx
theorem allF.mk  (hs : SpecsOK Try.prog (allF.specs ))  (H : ∀ (x0 : (El TStatus)), allF.pre (x0, ()) = true → ∃ m, allF.go  m x0 = some (allF.res (x0, ()), [])) : SpecOK Try.prog 52 allF.sp :=
  allF.mkR fun x0 hx => (H x0 hx).elim fun _ hm => allF.ret  hs  x0 hm

/-! ### triage/state.picked -/
abbrev pickM.ps : List AK := [.d false (.sl TStatus), .f 42 []]
def pickM.pre : ElA pickM.ps → Bool := fun (x : (List (El TStatus)) × Unit × Unit) => fits (.sl TStatus) (x.1) && (true)
def pickM.res : ElA pickM.ps → IV := fun (x : (List (El TStatus)) × Unit × Unit) => (fun l _ => .c (.sl TStatus (List.filter memB l))) x.1 x.2.1
def pickM.sp : ISpec := spOf pickM.ps pickM.pre pickM.res
abbrev pickM.OK : Prop := SpecOK Try.prog 41 pickM.sp
noncomputable def pickM.body : Code := bodyOf Try.f41
noncomputable def pickM.rs : List ResultVar := Try.f41.results.toList
def pickM.live : List (Nat × Live) := [(3, ⟨[(1, .plain), (5, .arr 43 TStatus), (8, .sl TStatus), (9, .plain), (10, .plain)], []⟩)]
noncomputable def pickM.specs  : List (Nat × (List Bool × ISpec)) := [(42, ([], memF.sp)), (50, ([], copy.sp))]
noncomputable def pickM.ospecs  : List (Nat × OS) := []
noncomputable def pickM.cfg  : Cfg := ⟨lkp tab, lkp (pickM.specs ), lkp pickM.live, ⟨lkp (pickM.ospecs ), [], none, false⟩⟩
noncomputable def pickM.l1  (m : Nat) (x0 : List (El TStatus)) (x1 : Int) (x2 : Int) (x3 : List (El TStatus)) : R := run (pickM.cfg ) 27 pickM.rs m ((todoR 3 pickM.body []).getD []) ⟨ofList (.c .junk) [(1, (.c (.fn 42 []))), (5, (.c (.sref 766))), (8, (.c (.sl TStatus x0))), (9, (.c (.v (.int .i64 x1)))), (10, (.c (.v (.int .i64 x2))))], ofList none [(766, some (.arr 43 TStatus x3 false))], ofList false [(766, true)]⟩
noncomputable def pickM.go  (m : Nat) (x0 : (List (El TStatus))) (x1 : Unit) : R := run (pickM.cfg ) 27 pickM.rs m [.code pickM.body] (enter (ivA pickM.ps (x0, x1, ())))
theorem pickM.start  (m : Nat) (x0 : (List (El TStatus))) (x1 : Unit) : pickM.go  (m + 1) x0 x1 =
  pickM.l1  m x0 ((List.length x0) : Int) (0 : Int) ([] : List (El TStatus)) := by kernel_rfl
theorem pickM.s1  (m : Nat) (x0 : List (El TStatus)) (x1 : Int) (x2 : Int) (x3 : List (El TStatus)) : pickM.l1  (m + 1) x0 x1 x2 x3 =
  cond (decide (x2 < x1)) (
   test (decide ((0 : Int) ≤ x2)) (
    test (decide (x2 < ((List.length x0) : Int))) (
     test (memF.pre (((rdEl TStatus x0 (Int.toNat x2))), Unit.unit)) (
      cond (memB ((rdEl TStatus x0 (Int.toNat x2)))) (
       test (copy.pre (((rdEl TStatus x0 (Int.toNat x2))).1, Unit.unit)) (
        test (decide (((List.length x3) + (List.length (((rdEl TStatus x0 (Int.toNat x2))) :: ([] : List (El TStatus))))) ≤ (lim 200))) (
         pickM.l1  m x0 x1 (IntKind.i64.wrap (x2 + (1 : Int))) (x3 ++ (((rdEl TStatus x0 (Int.toNat x2))) :: ([] : List (El TStatus))))))) (
       pickM.l1  m x0 x1 (IntKind.i64.wrap (x2 + (1 : Int))) x3))))) (
   some ((.c (.sl TStatus x3)), [])) := by kernel_rfl
theorem pickM.run_eq  (m : Nat) (x0 : (List (El TStatus))) (x1 : Unit) : run (pickM.cfg ) Try.f41.ntmps Try.f41.results.toList m [.code (bodyOf Try.f41)] (enter (ivA pickM.ps (x0, x1, ()))) = pickM.go  m x0 x1 := by kernel_rfl
theorem pickM.ret  (hs : SpecsOK Try.prog (pickM.specs ))  (x0 : (List (El TStatus))) (x1 : Unit) {m : Nat} {r : IV} (h : pickM.go  m x0 x1 = some (r, [])) : VE.Returns Try.prog 41 (ivA pickM.ps (x0, x1, ())) r :=
  returns_of_run (cfg := pickM.cfg ) (cfgOK_of mixed tab_ok hs .nil) rfl Try.func41 (body_some (by kernel_rfl)) (Nat.le_of_ble_eq_true (by kernel_rfl)) ((pickM.run_eq  m x0 x1).trans h)
abbrev pickM.Law : Prop := ∀ (x0 : (List (El TStatus))) (x1 : Unit), pickM.pre (x0, x1, ()) = true → VE.Returns Try.prog 41 (ivA pickM.ps (x0, x1, ())) (pickM.res (x0, x1, ()))
theorem pickM.mkR (H : ∀ (x0 : (List (El TStatus))) (x1 : Unit), pickM.pre (x0, x1, ()) = true → VE.Returns Try.prog 41 (ivA pickM.ps (x0, x1, ())) (pickM.res (x0, x1, ()))) : SpecOK Try.prog 41 pickM.sp :=
  specOf_ret Try.func41 (by kernel_rfl) (by kernel_rfl) fun (x : (List (El TStatus)) × Unit × Unit) hx => H (x.1) (x.2.1) hx
theorem pickM.mk  (hs : SpecsOK Try.prog (pickM.specs ))  (H : ∀ (x0 : (List (El TStatus))) (x1 : Unit), pickM.pre (x0, x1, ()) = true → ∃ m, pickM.go  m x0 x1 = some (pickM.res (x0, x1, ()), [])) : SpecOK Try.prog 41 pickM.sp :=
  pickM.mkR fun x0 x1 hx => (H x0 x1 hx).elim fun _ hm => pickM.ret  hs  x0 x1 hm

/-! ### triage/state.Members -/
abbrev members.ps : List AK := [.d false (.sl TStatus)]
def members.pre : ElA members.ps → Bool := fun (x : (List (El TStatus)) × Unit) => fits (.sl TStatus) (x.1) && (true)
def members.res : ElA members.ps → IV := fun (x : (List (El TStatus)) × Unit) => (fun l => .c (.sl TStatus (List.filter memB l))) x.1
def members.sp : ISpec := spOf members.ps members.pre members.res
abbrev members.OK : Prop := SpecOK Try.prog 27 members.sp
noncomputable def members.body : Code := bodyOf Try.f27
noncomputable def members.rs : List ResultVar := Try.f27.results.toList
def members.live : List (Nat × Live) := []
noncomputable def members.specs  : List (Nat × (List Bool × ISpec)) := [(41, ([], pickM.sp))]
noncomputable def members.ospecs  : List (Nat × OS) := []
noncomputable def members.cfg  : Cfg := ⟨lkp tab, lkp (members.specs ), lkp members.live, ⟨lkp (members.ospecs ), [], none, false⟩⟩
noncomputable def members.go  (m : Nat) (x0 : (List (El TStatus))) : R := run (members.cfg ) 5 members.rs m [.code members.body] (enter (ivA members.ps (x0, ())))
theorem members.start  (m : Nat) (x0 : (List (El TStatus))) : members.go  (m + 1) x0 =
  test (pickM.pre (x0, (Unit.unit, Unit.unit))) (
   some ((.c (.sl TStatus (List.filter memB x0))), [])) := by kernel_rfl
theorem members.run_eq  (m : Nat) (x0 : (List (El TStatus))) : run (members.cfg ) Try.f27.ntmps Try.f27.results.toList m [.code (bodyOf Try.f27)] (enter (ivA members.ps (x0, ()))) = members.go  m x0 := by kernel_rfl
theorem members.ret  (hs : SpecsOK Try.prog (members.specs ))  (x0 : (List (El TStatus))) {m : Nat} {r : IV} (h : members.go  m x0 = some (r, [])) : VE.Returns Try.prog 27 (ivA members.ps (x0, ())) r :=
  returns_of_run (cfg := members.cfg ) (cfgOK_of mixed tab_ok hs .nil) rfl Try.func27 (body_some (by kernel_rfl)) (Nat.le_of_ble_eq_true (by kernel_rfl)) ((members.run_eq  m x0).trans h)
abbrev members.Law : Prop := ∀ (x0 : (List (El TStatus))), members.pre (x0, ()) = true → VE.Returns Try.prog 27 (ivA members.ps (x0, ())) (members.res (x0, ()))
theorem members.mkR (H : ∀ (x0 : (List (El TStatus))), members.pre (x0, ()) = true → VE.Returns Try.prog 27 (ivA members.ps (x0, ())) (members.res (x0, ()))) : SpecOK Try.prog 27 members.sp :=
  specOf_ret Try.func27 (by kernel_rfl) (by kernel_rfl) fun (x : (List (El TStatus)) × Unit) hx => H (x.1) hx
theorem members.mk  (hs : SpecsOK Try.prog (members.specs ))  (H : ∀ (x0 : (List (El TStatus))), members.pre (x0, ()) = true → ∃ m, members.go  m x0 = some (members.res (x0, ()), [])) : SpecOK Try.prog 27 members.sp :=
  members.mkR fun x0 hx => (H x0 hx).elim fun _ hm => members.ret  hs  x0 hm

/-! ### triage/triageref10.Members -/
abbrev membersR.ps : List AK := [.d false (.sl TStatus)]
def membersR.pre : ElA membersR.ps → Bool := fun (x : (List (El TStatus)) × Unit) => fits (.sl TStatus) (x.1) && (true)
def membersR.res : ElA membersR.ps → IV := fun (x : (List (El TStatus)) × Unit) => (fun l => .c (.sl TStatus (List.filter memB l))) x.1
def membersR.sp : ISpec := spOf membersR.ps membersR.pre membersR.res
abbrev membersR.OK : Prop := SpecOK Try.prog 25 membersR.sp
noncomputable def membersR.body : Code := bodyOf Try.f25
noncomputable def membersR.rs : List ResultVar := Try.f25.results.toList
def membersR.live : List (Nat × Live) := [(3, ⟨[(3, .arr 43 TStatus), (6, .sl TStatus), (7, .plain), (8, .plain)], []⟩)]
noncomputable def membersR.specs  : List (Nat × (List Bool × ISpec)) := [(32, ([], copyOne.sp))]
noncomputable def membersR.ospecs  : List (Nat × OS) := []
noncomputable def membersR.cfg  : Cfg := ⟨lkp tab, lkp (membersR.specs ), lkp membersR.live, ⟨lkp (membersR.ospecs ), [], none, false⟩⟩
noncomputable def membersR.l1  (m : Nat) (x0 : List (El TStatus)) (x1 : Int) (x2 : Int) (x3 : List (El TStatus)) : R := run (membersR.cfg ) 22 membersR.rs m ((todoR 3 membersR.body []).getD []) ⟨ofList (.c .junk) [(3, (.c (.sref 510))), (6, (.c (.sl TStatus x0))), (7, (.c (.v (.int .i64 x1)))), (8, (.c (.v (.int .i64 x2))))], ofList none [(510, some (.arr 43 TStatus x3 false))], ofList false [(510, true)]⟩
noncomputable def membersR.go  (m : Nat) (x0 : (List (El TStatus))) : R := run (membersR.cfg ) 22 membersR.rs m [.code membersR.body] (enter (ivA membersR.ps (x0, ())))
theorem membersR.start  (m : Nat) (x0 : (List (El TStatus))) : membersR.go  (m + 1) x0 =
  membersR.l1  m x0 ((List.length x0) : Int) (0 : Int) ([] : List (El TStatus)) := by kernel_rfl
theorem membersR.s1  (m : Nat) (x0 : List (El TStatus)) (x1 : Int) (x2 : Int) (x3 : List (El TStatus)) : membersR.l1  (m + 1) x0 x1 x2 x3 =
  cond (decide (x2 < x1)) (
   test (decide ((0 : Int) ≤ x2)) (
    test (decide (x2 < ((List.length x0) : Int))) (
     cond (Bool.not (((((((rdEl TStatus x0 (Int.toNat x2))).2).2).2).2).2).1) (
      test (copyOne.pre (((rdEl TStatus x0 (Int.toNat x2))), Unit.unit)) (
       test (decide (((List.length x3) + (List.length (((rdEl TStatus x0 (Int.toNat x2))) :: ([] : List (El TStatus))))) ≤ (lim 200))) (
        membersR.l1  m x0 x1 (IntKind.i64.wrap (x2 + (1 : Int))) (x3 ++ (((rdEl TStatus x0 (Int.toNat x2))) :: ([] : List (El TStatus))))))) (
      membersR.l1  m x0 x1 (IntKind.i64.wrap (x2 + (1 : Int))) x3)))) (
   some ((.c (.sl TStatus x3)), [])) := by kernel_rfl
theorem membersR.run_eq  (m : Nat) (x0 : (List (El TStatus))) : run (membersR.cfg ) Try.f25.ntmps Try.f25.results.toList m [.code (bodyOf Try.f25)] (enter (ivA membersR.ps (x0, ()))) = membersR.go  m x0 := by kernel_rfl
theorem membersR.ret  (hs : SpecsOK Try.prog (membersR.specs ))  (x0 : (List (El TStatus))) {m : Nat} {r : IV} (h : membersR.go  m x0 = some (r, [])) : VE.Returns Try.prog 25 (ivA membersR.ps (x0, ())) r :=
  returns_of_run (cfg := membersR.cfg ) (cfgOK_of mixed tab_ok hs .nil) rfl Try.func25 (body_some (by kernel_rfl)) (Nat.le_of_ble_eq_true (by kernel_rfl)) ((membersR.run_eq  m x0).trans h)
abbrev membersR.Law : Prop := ∀ (x0 : (List (El TStatus))), membersR.pre (x0, ()) = true → VE.Returns Try.prog 25 (ivA membersR.ps (x0, ())) (membersR.res (x0, ()))
theorem membersR.mkR (H : ∀ (x0 : (List (El TStatus))), membersR.pre (x0, ()) = true → VE.Returns Try.prog 25 (ivA membersR.ps (x0, ())) (membersR.res (x0, ()))) : SpecOK Try.prog 25 membersR.sp :=
  specOf_ret Try.func25 (by kernel_rfl) (by kernel_rfl) fun (x : (List (El TStatus)) × Unit) hx => H (x.1) hx
theorem membersR.mk  (hs : SpecsOK Try.prog (membersR.specs ))  (H : ∀ (x0 : (List (El TStatus))), membersR.pre (x0, ()) = true → ∃ m, membersR.go  m x0 = some (membersR.res (x0, ()), [])) : SpecOK Try.prog 25 membersR.sp :=
  membersR.mkR fun x0 hx => (H x0 hx).elim fun _ hm => membersR.ret  hs  x0 hm

/-! ### triage/triageref10.SameOne -/
abbrev sameOR.ps : List AK := [.d true TStatus, .d true TStatus]
def sameOR.pre : ElA sameOR.ps → Bool := fun (x : (El TStatus) × (El TStatus) × Unit) => fits TStatus (x.1) && (fits TStatus (x.2.1) && (true))
def sameOR.res : ElA sameOR.ps → IV := fun (x : (El TStatus) × (El TStatus) × Unit) => (fun a b => vb (sameOB a b)) x.1 x.2.1
def sameOR.sp : ISpec := spOf sameOR.ps sameOR.pre sameOR.res
abbrev sameOR.OK : Prop := SpecOK Try.prog 23 sameOR.sp
noncomputable def sameOR.body : Code := bodyOf Try.f23
noncomputable def sameOR.rs : List ResultVar := Try.f23.results.toList
def sameOR.live : List (Nat × Live) := []
noncomputable def sameOR.specs  : List (Nat × (List Bool × ISpec)) := [(38, ([], sameR.sp))]
noncomputable def sameOR.ospecs  : List (Nat × OS) := []
noncomputable def sameOR.cfg  : Cfg := ⟨lkp tab, lkp (sameOR.specs ), lkp sameOR.live, ⟨lkp (sameOR.ospecs ), [], none, false⟩⟩
noncomputable def sameOR.go  (m : Nat) (x0 : (El TStatus)) (x1 : (El TStatus)) : R := run (sameOR.cfg ) 66 sameOR.rs m [.code sameOR.body] (enter (ivA sameOR.ps (x0, x1, ())))
theorem sameOR.start  (m : Nat) (x0 : (El TStatus)) (x1 : (El TStatus)) : sameOR.go  (m + 1) x0 x1 =
  test (sameR.pre (x0.1, (x1.1, Unit.unit))) (
   cond (sameB x0.1 x1.1) (
    cond ((x0.2.1.1 == x1.2.1.1) && ((x0.2.1.2.1 == x1.2.1.2.1) && ((x0.2.1.2.2.1 == x1.2.1.2.2.1) && ((x0.2.1.2.2.2 == x1.2.1.2.2.2) && true)))) (
     cond (x0.2.2.1 == x1.2.2.1) (
      cond ((x0.2.2.2.1.1 == x1.2.2.2.1.1) && ((x0.2.2.2.1.2 == x1.2.2.2.1.2) && true)) (
       cond ((x0.2.2.2.2.1.1 == x1.2.2.2.2.1.1) && ((x0.2.2.2.2.1.2.1 == x1.2.2.2.2.1.2.1) && ((x0.2.2.2.2.1.2.2.1 == x1.2.2.2.2.1.2.2.1) && ((x0.2.2.2.2.1.2.2.2 == x1.2.2.2.2.1.2.2.2) && true)))) (
        cond (x0.2.2.2.2.2.1 == x1.2.2.2.2.2.1) (
         cond (x0.2.2.2.2.2.2.1 == x1.2.2.2.2.2.2.1) (
          cond (x0.2.2.2.2.2.2.2.1 == x1.2.2.2.2.2.2.2.1) (
           some ((.c (.v (.bool (x0.2.2.2.2.2.2.2.2 == x1.2.2.2.2.2.2.2.2)))), [])) (
           some ((.c (.v (.bool false))), []))) (
          some ((.c (.v (.bool false))), []))) (
         some ((.c (.v (.bool false))), []))) (
        some ((.c (.v (.bool false))), []))) (
       some ((.c (.v (.bool false))), []))) (
      some ((.c (.v (.bool false))), []))) (
     some ((.c (.v (.bool false))), []))) (
    some ((.c (.v (.bool false))), []))) := by kernel_rfl
theorem sameOR.run_eq  (m : Nat) (x0 : (El TStatus)) (x1 : (El TStatus)) : run (sameOR.cfg ) Try.f23.ntmps Try.f23.results.toList m [.code (bodyOf Try.f23)] (enter (ivA sameOR.ps (x0, x1, ()))) = sameOR.go  m x0 x1 := by kernel_rfl
theorem sameOR.ret  (hs : SpecsOK Try.prog (sameOR.specs ))  (x0 : (El TStatus)) (x1 : (El TStatus)) {m : Nat} {r : IV} (h : sameOR.go  m x0 x1 = some (r, [])) : VE.Returns Try.prog 23 (ivA sameOR.ps (x0, x1, ())) r :=
  returns_of_run (cfg := sameOR.cfg ) (cfgOK_of mixed tab_ok hs .nil) rfl Try.func23 (body_some (by kernel_rfl)) (Nat.le_of_ble_eq_true (by kernel_rfl)) ((sameOR.run_eq  m x0 x1).trans h)
abbrev sameOR.Law : Prop := ∀ (x0 : (El TStatus)) (x1 : (El TStatus)), sameOR.pre (x0, x1, ()) = true → VE.Returns Try.prog 23 (ivA sameOR.ps (x0, x1, ())) (sameOR.res (x0, x1, ()))
theorem sameOR.mkR (H : ∀ (x0 : (El TStatus)) (x1 : (El TStatus)), sameOR.pre (x0, x1, ()) = true → VE.Returns Try.prog 23 (ivA sameOR.ps (x0, x1, ())) (sameOR.res (x0, x1, ()))) : SpecOK Try.prog 23 sameOR.sp :=
  specOf_ret Try.func23 (by kernel_rfl) (by kernel_rfl) fun (x : (El TStatus) × (El TStatus) × Unit) hx => H (x.1) (x.2.1) hx
theorem sameOR.mk  (hs : SpecsOK Try.prog (sameOR.specs ))  (H : ∀ (x0 : (El TStatus)) (x1 : (El TStatus)), sameOR.pre (x0, x1, ()) = true → ∃ m, sameOR.go  m x0 x1 = some (sameOR.res (x0, x1, ()), [])) : SpecOK Try.prog 23 sameOR.sp :=
  sameOR.mkR fun x0 x1 hx => (H x0 x1 hx).elim fun _ hm => sameOR.ret  hs  x0 x1 hm

/-! ### triage/triageref10.Same -/
abbrev sameSR.ps : List AK := [.d false (.sl TStatus), .d false (.sl TStatus)]
def sameSR.pre : ElA sameSR.ps → Bool := fun (x : (List (El TStatus)) × (List (El TStatus)) × Unit) => fits (.sl TStatus) (x.1) && (fits (.sl TStatus) (x.2.1) && (true))
def sameSR.res : ElA sameSR.ps → IV := fun (x : (List (El TStatus)) × (List (El TStatus)) × Unit) => (fun l m => vb (sameSB l m)) x.1 x.2.1
def sameSR.sp : ISpec := spOf sameSR.ps sameSR.pre sameSR.res
abbrev sameSR.OK : Prop := SpecOK Try.prog 11 sameSR.sp
noncomputable def sameSR.body : Code := bodyOf Try.f11
noncomputable def sameSR.rs : List ResultVar := Try.f11.results.toList
def sameSR.live : List (Nat × Live) := [(4, ⟨[(0, .sl TStatus), (1, .sl TStatus), (12, .plain), (13, .plain)], []⟩)]
noncomputable def sameSR.specs  : List (Nat × (List Bool × ISpec)) := [(23, ([], sameOR.sp))]
noncomputable def sameSR.ospecs  : List (Nat × OS) := []
noncomputable def sameSR.cfg  : Cfg := ⟨lkp tab, lkp (sameSR.specs ), lkp sameSR.live, ⟨lkp (sameSR.ospecs ), [], none, false⟩⟩
noncomputable def sameSR.l1  (m : Nat) (x0 : List (El TStatus)) (x1 : List (El TStatus)) (x2 : Int) (x3 : Int) : R := run (sameSR.cfg ) 27 sameSR.rs m ((todoR 4 sameSR.body []).getD []) ⟨ofList (.c .junk) [(0, (.c (.sl TStatus x0))), (1, (.c (.sl TStatus x1))), (12, (.c (.v (.int .i64 x2)))), (13, (.c (.v (.int .i64 x3))))], ofList none [], ofList false []⟩
noncomputable def sameSR.go  (m : Nat) (x0 : (List (El TStatus))) (x1 : (List (El TStatus))) : R := run (sameSR.cfg ) 27 sameSR.rs m [.code sameSR.body] (enter (ivA sameSR.ps (x0, x1, ())))
theorem sameSR.start  (m : Nat) (x0 : (List (El TStatus))) (x1 : (List (El TStatus))) : sameSR.go  (m + 1) x0 x1 =
  cond (bne ((List.length x0) : Int) ((List.length x1) : Int)) (
   some ((.c (.v (.bool false))), [])) (
   sameSR.l1  m x0 x1 ((List.length x0) : Int) (0 : Int)) := by kernel_rfl
theorem sameSR.s1  (m : Nat) (x0 : List (El TStatus)) (x1 : List (El TStatus)) (x2 : Int) (x3 : Int) : sameSR.l1  (m + 1) x0 x1 x2 x3 =
  cond (decide (x3 < x2)) (
   test (decide ((0 : Int) ≤ x3)) (
    test (decide (x3 < ((List.length x0) : Int))) (
     test (decide ((0 : Int) ≤ x3)) (
      test (decide (x3 < ((List.length x1) : Int))) (
       test (sameOR.pre (((rdEl TStatus x0 (Int.toNat x3))), (((rdEl TStatus x1 (Int.toNat x3))), Unit.unit))) (
        cond (Bool.not (sameOB ((rdEl TStatus x0 (Int.toNat x3))) ((rdEl TStatus x1 (Int.toNat x3))))) (
         some ((.c (.v (.bool false))), [])) (
         sameSR.l1  m x0 x1 x2 (IntKind.i64.wrap (x3 + (1 : Int)))))))))) (
   some ((.c (.v (.bool true))), [])) := by kernel_rfl
theorem sameSR.run_eq  (m : Nat) (x0 : (List (El TStatus))) (x1 : (List (El TStatus))) : run (sameSR.cfg ) Try.f11.ntmps Try.f11.results.toList m [.code (bodyOf Try.f11)] (enter (ivA sameSR.ps (x0, x1, ()))) = sameSR.go  m x0 x1 := by kernel_rfl
theorem sameSR.ret  (hs : SpecsOK Try.prog (sameSR.specs ))  (x0 : (List (El TStatus))) (x1 : (List (El TStatus))) {m : Nat} {r : IV} (h : sameSR.go  m x0 x1 = some (r, [])) : VE.Returns Try.prog 11 (ivA sameSR.ps (x0, x1, ())) r :=
  returns_of_run (cfg := sameSR.cfg ) (cfgOK_of mixed tab_ok hs .nil) rfl Try.func11 (body_some (by kernel_rfl)) (Nat.le_of_ble_eq_true (by kernel_rfl)) ((sameSR.run_eq  m x0 x1).trans h)
abbrev sameSR.Law : Prop := ∀ (x0 : (List (El TStatus))) (x1 : (List (El TStatus))), sameSR.pre (x0, x1, ()) = true → VE.Returns Try.prog 11 (ivA sameSR.ps (x0, x1, ())) (sameSR.res (x0, x1, ()))
theorem sameSR.mkR (H : ∀ (x0 : (List (El TStatus))) (x1 : (List (El TStatus))), sameSR.pre (x0, x1, ()) = true → VE.Returns Try.prog 11 (ivA sameSR.ps (x0, x1, ())) (sameSR.res (x0, x1, ()))) : SpecOK Try.prog 11 sameSR.sp :=
  specOf_ret Try.func11 (by kernel_rfl) (by kernel_rfl) fun (x : (List (El TStatus)) × (List (El TStatus)) × Unit) hx => H (x.1) (x.2.1) hx
theorem sameSR.mk  (hs : SpecsOK Try.prog (sameSR.specs ))  (H : ∀ (x0 : (List (El TStatus))) (x1 : (List (El TStatus))), sameSR.pre (x0, x1, ()) = true → ∃ m, sameSR.go  m x0 x1 = some (sameSR.res (x0, x1, ()), [])) : SpecOK Try.prog 11 sameSR.sp :=
  sameSR.mkR fun x0 x1 hx => (H x0 x1 hx).elim fun _ hm => sameSR.ret  hs  x0 x1 hm

/-! ### triage/triagelaw16.Light -/
abbrev lightS16.ps : List AK := [.d false (.sl TStatus)]
def lightS16.pre : ElA lightS16.ps → Bool := fun (x : (List (El TStatus)) × Unit) => fits (.sl TStatus) (x.1) && (true)
def lightS16.res : ElA lightS16.ps → IV := fun (x : (List (El TStatus)) × Unit) => (fun l => vi .i64 (lightL l)) x.1
def lightS16.sp : ISpec := spOf lightS16.ps lightS16.pre lightS16.res
abbrev lightS16.OK : Prop := SpecOK Try.prog 8 lightS16.sp
noncomputable def lightS16.body : Code := bodyOf Try.f8
noncomputable def lightS16.rs : List ResultVar := Try.f8.results.toList
def lightS16.live : List (Nat × Live) := [(2, ⟨[(5, .sl TStatus), (6, .plain), (7, .plain)], []⟩)]
noncomputable def lightS16.specs  : List (Nat × (List Bool × ISpec)) := [(9, ([], light.sp))]
noncomputable def lightS16.ospecs  : List (Nat × OS) := []
noncomputable def lightS16.cfg  : Cfg := ⟨lkp tab, lkp (lightS16.specs ), lkp lightS16.live, ⟨lkp (lightS16.ospecs ), [], none, false⟩⟩
noncomputable def lightS16.l1  (m : Nat) (x0 : List (El TStatus)) (x1 : Int) (x2 : Int) : R := run (lightS16.cfg ) 21 lightS16.rs m ((todoR 2 lightS16.body []).getD []) ⟨ofList (.c .junk) [(5, (.c (.sl TStatus x0))), (6, (.c (.v (.int .i64 x1)))), (7, (.c (.v (.int .i64 x2))))], ofList none [], ofList false []⟩
noncomputable def lightS16.go  (m : Nat) (x0 : (List (El TStatus))) : R := run (lightS16.cfg ) 21 lightS16.rs m [.code lightS16.body] (enter (ivA lightS16.ps (x0, ())))
theorem lightS16.start  (m : Nat) (x0 : (List (El TStatus))) : lightS16.go  (m + 1) x0 =
  lightS16.l1  m x0 ((List.length x0) : Int) (0 : Int) := by kernel_rfl
theorem lightS16.s1  (m : Nat) (x0 : List (El TStatus)) (x1 : Int) (x2 : Int) : lightS16.l1  (m + 1) x0 x1 x2 =
  cond (decide (x2 < x1)) (
   test (decide ((0 : Int) ≤ x2)) (
    test (decide (x2 < ((List.length x0) : Int))) (
     cond (decide (x2 > (80 : Int))) (
      some ((.c (.v (.int .i64 (1 : Int)))), [])) (
      test (light.pre (((rdEl TStatus x0 (Int.toNat x2))).1, Unit.unit)) (
       cond (decide ((lightI ((rdEl TStatus x0 (Int.toNat x2))).1) > (0 : Int))) (
        some ((.c (.v (.int .i64 (1 : Int)))), [])) (
        lightS16.l1  m x0 x1 (IntKind.i64.wrap (x2 + (1 : Int))))))))) (
   some ((.c (.v (.int .i64 (0 : Int)))), [])) := by kernel_rfl
theorem lightS16.run_eq  (m : Nat) (x0 : (List (El TStatus))) : run (lightS16.cfg ) Try.f8.ntmps Try.f8.results.toList m [.code (bodyOf Try.f8)] (enter (ivA lightS16.ps (x0, ()))) = lightS16.go  m x0 := by kernel_rfl
theorem lightS16.ret  (hs : SpecsOK Try.prog (lightS16.specs ))  (x0 : (List (El TStatus))) {m : Nat} {r : IV} (h : lightS16.go  m x0 = some (r, [])) : VE.Returns Try.prog 8 (ivA lightS16.ps (x0, ())) r :=
  returns_of_run (cfg := lightS16.cfg ) (cfgOK_of mixed tab_ok hs .nil) rfl Try.func8 (body_some (by kernel_rfl)) (Nat.le_of_ble_eq_true (by kernel_rfl)) ((lightS16.run_eq  m x0).trans h)
abbrev lightS16.Law : Prop := ∀ (x0 : (List (El TStatus))), lightS16.pre (x0, ()) = true → VE.Returns Try.prog 8 (ivA lightS16.ps (x0, ())) (lightS16.res (x0, ()))
theorem lightS16.mkR (H : ∀ (x0 : (List (El TStatus))), lightS16.pre (x0, ()) = true → VE.Returns Try.prog 8 (ivA lightS16.ps (x0, ())) (lightS16.res (x0, ()))) : SpecOK Try.prog 8 lightS16.sp :=
  specOf_ret Try.func8 (by kernel_rfl) (by kernel_rfl) fun (x : (List (El TStatus)) × Unit) hx => H (x.1) hx
theorem lightS16.mk  (hs : SpecsOK Try.prog (lightS16.specs ))  (H : ∀ (x0 : (List (El TStatus))), lightS16.pre (x0, ()) = true → ∃ m, lightS16.go  m x0 = some (lightS16.res (x0, ()), [])) : SpecOK Try.prog 8 lightS16.sp :=
  lightS16.mkR fun x0 hx => (H x0 hx).elim fun _ hm => lightS16.ret  hs  x0 hm

/-! ### slices.Index(()int,int) -/
abbrev indexI.ps : List AK := [.d false (.sl (.int .i64)), .d false (.int .i64)]
def indexI.pre : ElA indexI.ps → Bool := fun (x : (List Int) × Int × Unit) => fits (.sl (.int .i64)) (x.1) && (fits (.int .i64) (x.2.1) && (true))
def indexI.res : ElA indexI.ps → IV := fun (x : (List Int) × Int × Unit) => (fun l p => vi .i64 (ixOf (intEq p) l)) x.1 x.2.1
def indexI.sp : ISpec := spOf indexI.ps indexI.pre indexI.res
abbrev indexI.OK : Prop := SpecOK Try.prog 48 indexI.sp
noncomputable def indexI.body : Code := bodyOf Try.f48
noncomputable def indexI.rs : List ResultVar := Try.f48.results.toList
def indexI.live : List (Nat × Live) := [(2, ⟨[(0, .sl (.int .i64)), (1, .plain), (7, .plain), (8, .plain)], []⟩)]
noncomputable def indexI.specs  : List (Nat × (List Bool × ISpec)) := []
noncomputable def indexI.ospecs  : List (Nat × OS) := []
noncomputable def indexI.cfg  : Cfg := ⟨lkp tab, lkp (indexI.specs ), lkp indexI.live, ⟨lkp (indexI.ospecs ), [], none, false⟩⟩
noncomputable def indexI.l1  (m : Nat) (x0 : List Int) (x1 : Int) (x2 : Int) (x3 : Int) : R := run (indexI.cfg ) 19 indexI.rs m ((todoR 2 indexI.body []).getD []) ⟨ofList (.c .junk) [(0, (.c (.sl (.int .i64) x0))), (1, (.c (.v (.int .i64 x1)))), (7, (.c (.v (.int .i64 x2)))), (8, (.c (.v (.int .i64 x3))))], ofList none [], ofList false []⟩
noncomputable def indexI.go  (m : Nat) (x0 : (List Int)) (x1 : Int) : R := run (indexI.cfg ) 19 indexI.rs m [.code indexI.body] (enter (ivA indexI.ps (x0, x1, ())))
theorem indexI.start  (m : Nat) (x0 : (List Int)) (x1 : Int) : indexI.go  (m + 1) x0 x1 =
  indexI.l1  m x0 x1 ((List.length x0) : Int) (0 : Int) := by kernel_rfl
theorem indexI.s1  (m : Nat) (x0 : List Int) (x1 : Int) (x2 : Int) (x3 : Int) : indexI.l1  (m + 1) x0 x1 x2 x3 =
  cond (decide (x3 < x2)) (
   test (decide ((0 : Int) ≤ x3)) (
    test (decide (x3 < ((List.length x0) : Int))) (
     cond (x1 == (rdEl (.int .i64) x0 (Int.toNat x3))) (
      some ((.c (.v (.int .i64 x3))), [])) (
      indexI.l1  m x0 x1 x2 (IntKind.i64.wrap (x3 + (1 : Int))))))) (
   some ((.c (.v (.int .i64 (-(1 : Int))))), [])) := by kernel_rfl
theorem indexI.run_eq  (m : Nat) (x0 : (List Int)) (x1 : Int) : run (indexI.cfg ) Try.f48.ntmps Try.f48.results.toList m [.code (bodyOf Try.f48)] (enter (ivA indexI.ps (x0, x1, ()))) = indexI.go  m x0 x1 := by kernel_rfl
theorem indexI.ret  (hs : SpecsOK Try.prog (indexI.specs ))  (x0 : (List Int)) (x1 : Int) {m : Nat} {r : IV} (h : indexI.go  m x0 x1 = some (r, [])) : VE.Returns Try.prog 48 (ivA indexI.ps (x0, x1, ())) r :=
  returns_of_run (cfg := indexI.cfg ) (cfgOK_of mixed tab_ok hs .nil) rfl Try.func48 (body_some (by kernel_rfl)) (Nat.le_of_ble_eq_true (by kernel_rfl)) ((indexI.run_eq  m x0 x1).trans h)
abbrev indexI.Law : Prop := ∀ (x0 : (List Int)) (x1 : Int), indexI.pre (x0, x1, ()) = true → VE.Returns Try.prog 48 (ivA indexI.ps (x0, x1, ())) (indexI.res (x0, x1, ()))
theorem indexI.mkR (H : ∀ (x0 : (List Int)) (x1 : Int), indexI.pre (x0, x1, ()) = true → VE.Returns Try.prog 48 (ivA indexI.ps (x0, x1, ())) (indexI.res (x0, x1, ()))) : SpecOK Try.prog 48 indexI.sp :=
  specOf_ret Try.func48 (by kernel_rfl) (by kernel_rfl) fun (x : (List Int) × Int × Unit) hx => H (x.1) (x.2.1) hx
theorem indexI.mk  (hs : SpecsOK Try.prog (indexI.specs ))  (H : ∀ (x0 : (List Int)) (x1 : Int), indexI.pre (x0, x1, ()) = true → ∃ m, indexI.go  m x0 x1 = some (indexI.res (x0, x1, ()), [])) : SpecOK Try.prog 48 indexI.sp :=
  indexI.mkR fun x0 x1 hx => (H x0 x1 hx).elim fun _ hm => indexI.ret  hs  x0 x1 hm

/-! ### slices.Contains(()int,int) -/
abbrev contI.ps : List AK := [.d false (.sl (.int .i64)), .d false (.int .i64)]
def contI.pre : ElA contI.ps → Bool := fun (x : (List Int) × Int × Unit) => fits (.sl (.int .i64)) (x.1) && (fits (.int .i64) (x.2.1) && (true))
def contI.res : ElA contI.ps → IV := fun (x : (List Int) × Int × Unit) => (fun l p => vb (List.any l (intEq p))) x.1 x.2.1
def contI.sp : ISpec := spOf contI.ps contI.pre contI.res
abbrev contI.OK : Prop := SpecOK Try.prog 35 contI.sp
noncomputable def contI.body : Code := bodyOf Try.f35
noncomputable def contI.rs : List ResultVar := Try.f35.results.toList
def contI.live : List (Nat × Live) := []
noncomputable def contI.specs  : List (Nat × (List Bool × ISpec)) := [(48, ([], indexI.sp))]
noncomputable def contI.ospecs  : List (Nat × OS) := []
noncomputable def contI.cfg  : Cfg := ⟨lkp tab, lkp (contI.specs ), lkp contI.live, ⟨lkp (contI.ospecs ), [], none, false⟩⟩
noncomputable def contI.go  (m : Nat) (x0 : (List Int)) (x1 : Int) : R := run (contI.cfg ) 9 contI.rs m [.code contI.body] (enter (ivA contI.ps (x0, x1, ())))
theorem contI.start  (m : Nat) (x0 : (List Int)) (x1 : Int) : contI.go  (m + 1) x0 x1 =
  test (indexI.pre (x0, (x1, Unit.unit))) (
   some ((.c (.v (.bool (decide ((ixOf (intEq x1) x0) ≥ (0 : Int)))))), [])) := by kernel_rfl
theorem contI.run_eq  (m : Nat) (x0 : (List Int)) (x1 : Int) : run (contI.cfg ) Try.f35.ntmps Try.f35.results.toList m [.code (bodyOf Try.f35)] (enter (ivA contI.ps (x0, x1, ()))) = contI.go  m x0 x1 := by kernel_rfl
theorem contI.ret  (hs : SpecsOK Try.prog (contI.specs ))  (x0 : (List Int)) (x1 : Int) {m : Nat} {r : IV} (h : contI.go  m x0 x1 = some (r, [])) : VE.Returns Try.prog 35 (ivA contI.ps (x0, x1, ())) r :=
  returns_of_run (cfg := contI.cfg ) (cfgOK_of mixed tab_ok hs .nil) rfl Try.func35 (body_some (by kernel_rfl)) (Nat.le_of_ble_eq_true (by kernel_rfl)) ((contI.run_eq  m x0 x1).trans h)
abbrev contI.Law : Prop := ∀ (x0 : (List Int)) (x1 : Int), contI.pre (x0, x1, ()) = true → VE.Returns Try.prog 35 (ivA contI.ps (x0, x1, ())) (contI.res (x0, x1, ()))
theorem contI.mkR (H : ∀ (x0 : (List Int)) (x1 : Int), contI.pre (x0, x1, ()) = true → VE.Returns Try.prog 35 (ivA contI.ps (x0, x1, ())) (contI.res (x0, x1, ()))) : SpecOK Try.prog 35 contI.sp :=
  specOf_ret Try.func35 (by kernel_rfl) (by kernel_rfl) fun (x : (List Int) × Int × Unit) hx => H (x.1) (x.2.1) hx
theorem contI.mk  (hs : SpecsOK Try.prog (contI.specs ))  (H : ∀ (x0 : (List Int)) (x1 : Int), contI.pre (x0, x1, ()) = true → ∃ m, contI.go  m x0 x1 = some (contI.res (x0, x1, ()), [])) : SpecOK Try.prog 35 contI.sp :=
  contI.mkR fun x0 x1 hx => (H x0 x1 hx).elim fun _ hm => contI.ret  hs  x0 x1 hm

/-! ### triage/state.picked -/
abbrev pickAO.ps : List AK := [.d false (.sl TStatus), .f 52 []]
def pickAO.pre : ElA pickAO.ps → Bool := fun (x : (List (El TStatus)) × Unit × Unit) => fits (.sl TStatus) (x.1) && (true)
def pickAO.rv : ElA pickAO.ps → List RV := fun (x : (List (El TStatus)) × Unit × Unit) => [.m 43 TStatus ((fun l _ => l) x.1 x.2.1)]
def pickAO.res : ElA pickAO.ps → IV := fun x => oneOrTup (rvIVs 0 (pickAO.rv x))
def pickAO.back : ElA pickAO.ps → List (Nat × Box) := fun (x : (List (El TStatus)) × Unit × Unit) => rvBxs 0 (pickAO.rv x)
def pickAO.sp : OSpec := spO pickAO.ps pickAO.pre pickAO.res pickAO.back
abbrev pickAO.OK : Prop := SpecOKO Try.prog 41 pickAO.sp
noncomputable def pickAO.body : Code := bodyOf Try.f41
noncomputable def pickAO.rs : List ResultVar := Try.f41.results.toList
def pickAO.live : List (Nat × Live) := [(3, ⟨[(1, .plain), (5, .arr 43 TStatus), (8, .sl TStatus), (9, .plain), (10, .plain)], []⟩)]
noncomputable def pickAO.specs  : List (Nat × (List Bool × ISpec)) := [(52, ([], allF.sp)), (50, ([], copy.sp))]
noncomputable def pickAO.ospecs  : List (Nat × OS) := []
noncomputable def pickAO.cfg  : Cfg := ⟨lkp tab, lkp (pickAO.specs ), lkp pickAO.live, ⟨lkp (pickAO.ospecs ), oids 0 pickAO.ps, some ([.arr 43 TStatus], []), false⟩⟩
noncomputable def pickAO.l1  (m : Nat) (x0 : List (El TStatus)) (x1 : Int) (x2 : Int) (x3 : List (El TStatus)) : R := run (pickAO.cfg ) 27 pickAO.rs m ((todoR 3 pickAO.body []).getD []) ⟨ofList (.c .junk) [(1, (.c (.fn 52 []))), (5, (.c (.sref 766))), (8, (.c (.sl TStatus x0))), (9, (.c (.v (.int .i64 x1)))), (10, (.c (.v (.int .i64 x2))))], ofList none [(766, some (.arr 43 TStatus x3 false))], ofList false [(766, true)]⟩
noncomputable def pickAO.go  (m : Nat) (x0 : (List (El TStatus))) (x1 : Unit) : R := run (pickAO.cfg ) 27 pickAO.rs m [.code pickAO.body] (enterO (ivAO 0 pickAO.ps (x0, x1, ())) (bxAO 0 pickAO.ps (x0, x1, ())))
theorem pickAO.start  (m : Nat) (x0 : (List (El TStatus))) (x1 : Unit) : pickAO.go  (m + 1) x0 x1 =
  pickAO.l1  m x0 ((List.length x0) : Int) (0 : Int) ([] : List (El TStatus)) := by kernel_rfl
theorem pickAO.s1  (m : Nat) (x0 : List (El TStatus)) (x1 : Int) (x2 : Int) (x3 : List (El TStatus)) : pickAO.l1  (m + 1) x0 x1 x2 x3 =
  cond (decide (x2 < x1)) (
   test (decide ((0 : Int) ≤ x2)) (
    test (decide (x2 < ((List.length x0) : Int))) (
     test (allF.pre (((rdEl TStatus x0 (Int.toNat x2))), Unit.unit)) (
      test (copy.pre (((rdEl TStatus x0 (Int.toNat x2))).1, Unit.unit)) (
       test (decide (((List.length x3) + (List.length (((rdEl TStatus x0 (Int.toNat x2))) :: ([] : List (El TStatus))))) ≤ (lim 200))) (
        pickAO.l1  m x0 x1 (IntKind.i64.wrap (x2 + (1 : Int))) (x3 ++ (((rdEl TStatus x0 (Int.toNat x2))) :: ([] : List (El TStatus)))))))))) (
   some ((.c (.sref 115326)), [(115326, (.arr 43 TStatus x3 false))])) := by kernel_rfl
theorem pickAO.run_eq  (m : Nat) (x0 : (List (El TStatus))) (x1 : Unit) : run (pickAO.cfg ) Try.f41.ntmps Try.f41.results.toList m [.code (bodyOf Try.f41)] (enterO (ivAO 0 pickAO.ps (x0, x1, ())) (bxAO 0 pickAO.ps (x0, x1, ()))) = pickAO.go  m x0 x1 := by kernel_rfl
theorem pickAO.ret  (hs : SpecsOK Try.prog (pickAO.specs ))  (x0 : (List (El TStatus))) (x1 : Unit) {m : Nat} {r : IV} {b : List (Nat × Box)} (h : pickAO.go  m x0 x1 = some (r, b)) : VE.ReturnsO Try.prog 41 (ivAO 0 pickAO.ps (x0, x1, ())) (bxAO 0 pickAO.ps (x0, x1, ())) r b :=
  returnsO_of_run (cfg := pickAO.cfg ) (cfgOK_of mixed tab_ok hs .nil) rfl Try.func41 (body_some (by kernel_rfl)) (Nat.le_of_ble_eq_true (by kernel_rfl)) (fun _ _ _ h => oids_mem h) ((pickAO.run_eq  m x0 x1).trans h)
abbrev pickAO.Law : Prop := ∀ (x0 : (List (El TStatus))) (x1 : Unit), pickAO.pre (x0, x1, ()) = true → VE.ReturnsO Try.prog 41 (ivAO 0 pickAO.ps (x0, x1, ())) (bxAO 0 pickAO.ps (x0, x1, ())) (pickAO.res (x0, x1, ())) (pickAO.back (x0, x1, ()))
theorem pickAO.mkR (H : ∀ (x0 : (List (El TStatus))) (x1 : Unit), pickAO.pre (x0, x1, ()) = true → VE.ReturnsO Try.prog 41 (ivAO 0 pickAO.ps (x0, x1, ())) (bxAO 0 pickAO.ps (x0, x1, ())) (pickAO.res (x0, x1, ())) (pickAO.back (x0, x1, ()))) : SpecOKO Try.prog 41 pickAO.sp :=
  specO_ret Try.func41 (by kernel_rfl) (by kernel_rfl) fun (x : (List (El TStatus)) × Unit × Unit) hx => H (x.1) (x.2.1) hx
theorem pickAO.mk  (hs : SpecsOK Try.prog (pickAO.specs ))  (H : ∀ (x0 : (List (El TStatus))) (x1 : Unit), pickAO.pre (x0, x1, ()) = true → ∃ m, pickAO.go  m x0 x1 = some (pickAO.res (x0, x1, ()), pickAO.back (x0, x1, ()))) : SpecOKO Try.prog 41 pickAO.sp :=
  pickAO.mkR fun x0 x1 hx => (H x0 x1 hx).elim fun _ hm => pickAO.ret  hs  x0 x1 hm

/-! ### triage/state.Copy -/
abbrev copySO.ps : List AK := [.d false (.sl TStatus)]
def copySO.pre : ElA copySO.ps → Bool := fun (x : (List (El TStatus)) × Unit) => fits (.sl TStatus) (x.1) && (true)
def copySO.rv : ElA copySO.ps → List RV := fun (x : (List (El TStatus)) × Unit) => [.m 43 TStatus ((fun l => l) x.1)]
def copySO.res : ElA copySO.ps → IV := fun x => oneOrTup (rvIVs 0 (copySO.rv x))
def copySO.back : ElA copySO.ps → List (Nat × Box) := fun (x : (List (El TStatus)) × Unit) => rvBxs 0 (copySO.rv x)
def copySO.sp : OSpec := spO copySO.ps copySO.pre copySO.res copySO.back
abbrev copySO.OK : Prop := SpecOKO Try.prog 44 copySO.sp
noncomputable def copySO.body : Code := bodyOf Try.f44
noncomputable def copySO.rs : List ResultVar := Try.f44.results.toList
def copySO.live : List (Nat × Live) := []
noncomputable def copySO.specs  : List (Nat × (List Bool × ISpec)) := []
noncomputable def copySO.ospecs  : List (Nat × OS) := [(41, ⟨[], [], pickAO.sp⟩)]
noncomputable def copySO.cfg  : Cfg := ⟨lkp tab, lkp (copySO.specs ), lkp copySO.live, ⟨lkp (copySO.ospecs ), oids 0 copySO.ps, some ([.arr 43 TStatus], []), false⟩⟩
noncomputable def copySO.go  (m : Nat) (x0 : (List (El TStatus))) : R := run (copySO.cfg ) 5 copySO.rs m [.code copySO.body] (enterO (ivAO 0 copySO.ps (x0, ())) (bxAO 0 copySO.ps (x0, ())))
theorem copySO.start  (m : Nat) (x0 : (List (El TStatus))) : copySO.go  (m + 1) x0 =
  test (pickAO.pre (x0, (Unit.unit, Unit.unit))) (
   some ((.c (.sref 115326)), [(115326, (.arr 43 TStatus x0 false))])) := by kernel_rfl
theorem copySO.run_eq  (m : Nat) (x0 : (List (El TStatus))) : run (copySO.cfg ) Try.f44.ntmps Try.f44.results.toList m [.code (bodyOf Try.f44)] (enterO (ivAO 0 copySO.ps (x0, ())) (bxAO 0 copySO.ps (x0, ()))) = copySO.go  m x0 := by kernel_rfl
theorem copySO.ret  (hs : SpecsOK Try.prog (copySO.specs )) (ho : OSpecsOK Try.prog (copySO.ospecs )) (x0 : (List (El TStatus))) {m : Nat} {r : IV} {b : List (Nat × Box)} (h : copySO.go  m x0 = some (r, b)) : VE.ReturnsO Try.prog 44 (ivAO 0 copySO.ps (x0, ())) (bxAO 0 copySO.ps (x0, ())) r b :=
  returnsO_of_run (cfg := copySO.cfg ) (cfgOK_of mixed tab_ok hs ho) rfl Try.func44 (body_some (by kernel_rfl)) (Nat.le_of_ble_eq_true (by kernel_rfl)) (fun _ _ _ h => oids_mem h) ((copySO.run_eq  m x0).trans h)
abbrev copySO.Law : Prop := ∀ (x0 : (List (El TStatus))), copySO.pre (x0, ()) = true → VE.ReturnsO Try.prog 44 (ivAO 0 copySO.ps (x0, ())) (bxAO 0 copySO.ps (x0, ())) (copySO.res (x0, ())) (copySO.back (x0, ()))
theorem copySO.mkR (H : ∀ (x0 : (List (El TStatus))), copySO.pre (x0, ()) = true → VE.ReturnsO Try.prog 44 (ivAO 0 copySO.ps (x0, ())) (bxAO 0 copySO.ps (x0, ())) (copySO.res (x0, ())) (copySO.back (x0, ()))) : SpecOKO Try.prog 44 copySO.sp :=
  specO_ret Try.func44 (by kernel_rfl) (by kernel_rfl) fun (x : (List (El TStatus)) × Unit) hx => H (x.1) hx
theorem copySO.mk  (hs : SpecsOK Try.prog (copySO.specs )) (ho : OSpecsOK Try.prog (copySO.ospecs )) (H : ∀ (x0 : (List (El TStatus))), copySO.pre (x0, ()) = true → ∃ m, copySO.go  m x0 = some (copySO.res (x0, ()), copySO.back (x0, ()))) : SpecOKO Try.prog 44 copySO.sp :=
  copySO.mkR fun x0 hx => (H x0 hx).elim fun _ hm => copySO.ret  hs ho x0 hm

/-! ### triage/fit.Of$1 -/
abbrev ofF.ps : List AK := [.d true TStatus, .p (.sl TPair)]
def ofF.pre : ElA ofF.ps → Bool := fun (x : (El TStatus) × (List (El TPair)) × Unit) => fits TStatus (x.1) && (fits (.sl TPair) (x.2.1) && (true))
def ofF.res : ElA ofF.ps → IV := fun (x : (El TStatus) × (List (El TPair)) × Unit) => (fun s c => vb (pOf c s)) x.1 x.2.1
def ofF.sp : ISpec := spOf ofF.ps ofF.pre ofF.res
abbrev ofF.OK : Prop := SpecOK Try.prog 29 ofF.sp
noncomputable def ofF.body : Code := bodyOf Try.f29
noncomputable def ofF.rs : List ResultVar := Try.f29.results.toList
def ofF.live : List (Nat × Live) := []
noncomputable def ofF.specs  : List (Nat × (List Bool × ISpec)) := [(30, ([], has.sp))]
noncomputable def ofF.ospecs  : List (Nat × OS) := []
noncomputable def ofF.cfg  : Cfg := ⟨lkp tab, lkp (ofF.specs ), lkp ofF.live, ⟨lkp (ofF.ospecs ), [], none, false⟩⟩
noncomputable def ofF.go  (m : Nat) (x0 : (El TStatus)) (x1 : (List (El TPair))) : R := run (ofF.cfg ) 8 ofF.rs m [.code ofF.body] (enter (ivA ofF.ps (x0, x1, ())))
theorem ofF.start  (m : Nat) (x0 : (El TStatus)) (x1 : (List (El TPair))) : ofF.go  (m + 1) x0 x1 =
  test (has.pre (x0.1, (x1, Unit.unit))) (
   some ((.c (.v (.bool (hasB x0.1 x1)))), [])) := by kernel_rfl
theorem ofF.run_eq  (m : Nat) (x0 : (El TStatus)) (x1 : (List (El TPair))) : run (ofF.cfg ) Try.f29.ntmps Try.f29.results.toList m [.code (bodyOf Try.f29)] (enter (ivA ofF.ps (x0, x1, ()))) = ofF.go  m x0 x1 := by kernel_rfl
theorem ofF.ret  (hs : SpecsOK Try.prog (ofF.specs ))  (x0 : (El TStatus)) (x1 : (List (El TPair))) {m : Nat} {r : IV} (h : ofF.go  m x0 x1 = some (r, [])) : VE.Returns Try.prog 29 (ivA ofF.ps (x0, x1, ())) r :=
  returns_of_run (cfg := ofF.cfg ) (cfgOK_of mixed tab_ok hs .nil) rfl Try.func29 (body_some (by kernel_rfl)) (Nat.le_of_ble_eq_true (by kernel_rfl)) ((ofF.run_eq  m x0 x1).trans h)
abbrev ofF.Law : Prop := ∀ (x0 : (El TStatus)) (x1 : (List (El TPair))), ofF.pre (x0, x1, ()) = true → VE.Returns Try.prog 29 (ivA ofF.ps (x0, x1, ())) (ofF.res (x0, x1, ()))
theorem ofF.mkR (H : ∀ (x0 : (El TStatus)) (x1 : (List (El TPair))), ofF.pre (x0, x1, ()) = true → VE.Returns Try.prog 29 (ivA ofF.ps (x0, x1, ())) (ofF.res (x0, x1, ()))) : SpecOK Try.prog 29 ofF.sp :=
  specOf_ret Try.func29 (by kernel_rfl) (by kernel_rfl) fun (x : (El TStatus) × (List (El TPair)) × Unit) hx => H (x.1) (x.2.1) hx
theorem ofF.mk  (hs : SpecsOK Try.prog (ofF.specs ))  (H : ∀ (x0 : (El TStatus)) (x1 : (List (El TPair))), ofF.pre (x0, x1, ()) = true → ∃ m, ofF.go  m x0 x1 = some (ofF.res (x0, x1, ()), [])) : SpecOK Try.prog 29 ofF.sp :=
  ofF.mkR fun x0 x1 hx => (H x0 x1 hx).elim fun _ hm => ofF.ret  hs  x0 x1 hm

/-! ### triage/fit.Group$1 -/
abbrev grF.ps : List AK := [.d true TStatus, .p (.int .i64)]
def grF.pre : ElA grF.ps → Bool := fun (x : (El TStatus) × Int × Unit) => fits TStatus (x.1) && (fits (.int .i64) (x.2.1) && (true))
def grF.res : ElA grF.ps → IV := fun (x : (El TStatus) × Int × Unit) => (fun s c => vb (pGr c s)) x.1 x.2.1
def grF.sp : ISpec := spOf grF.ps grF.pre grF.res
abbrev grF.OK : Prop := SpecOK Try.prog 31 grF.sp
noncomputable def grF.body : Code := bodyOf Try.f31
noncomputable def grF.rs : List ResultVar := Try.f31.results.toList
def grF.live : List (Nat × Live) := []
noncomputable def grF.specs  : List (Nat × (List Bool × ISpec)) := []
noncomputable def grF.ospecs  : List (Nat × OS) := []
noncomputable def grF.cfg  : Cfg := ⟨lkp tab, lkp (grF.specs ), lkp grF.live, ⟨lkp (grF.ospecs ), [], none, false⟩⟩
noncomputable def grF.go  (m : Nat) (x0 : (El TStatus)) (x1 : Int) : R := run (grF.cfg ) 9 grF.rs m [.code grF.body] (enter (ivA grF.ps (x0, x1, ())))
theorem grF.start  (m : Nat) (x0 : (El TStatus)) (x1 : Int) : grF.go  (m + 1) x0 x1 =
  some ((.c (.v (.bool (x0.1.2.2.1 == x1)))), []) := by kernel_rfl
theorem grF.run_eq  (m : Nat) (x0 : (El TStatus)) (x1 : Int) : run (grF.cfg ) Try.f31.ntmps Try.f31.results.toList m [.code (bodyOf Try.f31)] (enter (ivA grF.ps (x0, x1, ()))) = grF.go  m x0 x1 := by kernel_rfl
theorem grF.ret  (hs : SpecsOK Try.prog (grF.specs ))  (x0 : (El TStatus)) (x1 : Int) {m : Nat} {r : IV} (h : grF.go  m x0 x1 = some (r, [])) : VE.Returns Try.prog 31 (ivA grF.ps (x0, x1, ())) r :=
  returns_of_run (cfg := grF.cfg ) (cfgOK_of mixed tab_ok hs .nil) rfl Try.func31 (body_some (by kernel_rfl)) (Nat.le_of_ble_eq_true (by kernel_rfl)) ((grF.run_eq  m x0 x1).trans h)
abbrev grF.Law : Prop := ∀ (x0 : (El TStatus)) (x1 : Int), grF.pre (x0, x1, ()) = true → VE.Returns Try.prog 31 (ivA grF.ps (x0, x1, ())) (grF.res (x0, x1, ()))
theorem grF.mkR (H : ∀ (x0 : (El TStatus)) (x1 : Int), grF.pre (x0, x1, ()) = true → VE.Returns Try.prog 31 (ivA grF.ps (x0, x1, ())) (grF.res (x0, x1, ()))) : SpecOK Try.prog 31 grF.sp :=
  specOf_ret Try.func31 (by kernel_rfl) (by kernel_rfl) fun (x : (El TStatus) × Int × Unit) hx => H (x.1) (x.2.1) hx
theorem grF.mk  (hs : SpecsOK Try.prog (grF.specs ))  (H : ∀ (x0 : (El TStatus)) (x1 : Int), grF.pre (x0, x1, ()) = true → ∃ m, grF.go  m x0 x1 = some (grF.res (x0, x1, ()), [])) : SpecOK Try.prog 31 grF.sp :=
  grF.mkR fun x0 x1 hx => (H x0 x1 hx).elim fun _ hm => grF.ret  hs  x0 x1 hm

/-! ### triage/fit.Without$1 -/
abbrev woF.ps : List AK := [.d true TStatus, .p (.sl (.int .i64))]
def woF.pre : ElA woF.ps → Bool := fun (x : (El TStatus) × (List Int) × Unit) => fits TStatus (x.1) && (fits (.sl (.int .i64)) (x.2.1) && (true))
def woF.res : ElA woF.ps → IV := fun (x : (El TStatus) × (List Int) × Unit) => (fun s c => vb (pWo c s)) x.1 x.2.1
def woF.sp : ISpec := spOf woF.ps woF.pre woF.res
abbrev woF.OK : Prop := SpecOK Try.prog 34 woF.sp
noncomputable def woF.body : Code := bodyOf Try.f34
noncomputable def woF.rs : List ResultVar := Try.f34.results.toList
def woF.live : List (Nat × Live) := []
noncomputable def woF.specs  : List (Nat × (List Bool × ISpec)) := [(35, ([], contI.sp))]
noncomputable def woF.ospecs  : List (Nat × OS) := []
noncomputable def woF.cfg  : Cfg := ⟨lkp tab, lkp (woF.specs ), lkp woF.live, ⟨lkp (woF.ospecs ), [], none, false⟩⟩
noncomputable def woF.go  (m : Nat) (x0 : (El TStatus)) (x1 : (List Int)) : R := run (woF.cfg ) 10 woF.rs m [.code woF.body] (enter (ivA woF.ps (x0, x1, ())))
theorem woF.start  (m : Nat) (x0 : (El TStatus)) (x1 : (List Int)) : woF.go  (m + 1) x0 x1 =
  test (contI.pre (x1, (x0.1.1, Unit.unit))) (
   some ((.c (.v (.bool (Bool.not (List.any x1 (intEq x0.1.1)))))), [])) := by kernel_rfl
theorem woF.run_eq  (m : Nat) (x0 : (El TStatus)) (x1 : (List Int)) : run (woF.cfg ) Try.f34.ntmps Try.f34.results.toList m [.code (bodyOf Try.f34)] (enter (ivA woF.ps (x0, x1, ()))) = woF.go  m x0 x1 := by kernel_rfl
theorem woF.ret  (hs : SpecsOK Try.prog (woF.specs ))  (x0 : (El TStatus)) (x1 : (List Int)) {m : Nat} {r : IV} (h : woF.go  m x0 x1 = some (r, [])) : VE.Returns Try.prog 34 (ivA woF.ps (x0, x1, ())) r :=
  returns_of_run (cfg := woF.cfg ) (cfgOK_of mixed tab_ok hs .nil) rfl Try.func34 (body_some (by kernel_rfl)) (Nat.le_of_ble_eq_true (by kernel_rfl)) ((woF.run_eq  m x0 x1).trans h)
abbrev woF.Law : Prop := ∀ (x0 : (El TStatus)) (x1 : (List Int)), woF.pre (x0, x1, ()) = true → VE.Returns Try.prog 34 (ivA woF.ps (x0, x1, ())) (woF.res (x0, x1, ()))
theorem woF.mkR (H : ∀ (x0 : (El TStatus)) (x1 : (List Int)), woF.pre (x0, x1, ()) = true → VE.Returns Try.prog 34 (ivA woF.ps (x0, x1, ())) (woF.res (x0, x1, ()))) : SpecOK Try.prog 34 woF.sp :=
  specOf_ret Try.func34 (by kernel_rfl) (by kernel_rfl) fun (x : (El TStatus) × (List Int) × Unit) hx => H (x.1) (x.2.1) hx
theorem woF.mk  (hs : SpecsOK Try.prog (woF.specs ))  (H : ∀ (x0 : (El TStatus)) (x1 : (List Int)), woF.pre (x0, x1, ()) = true → ∃ m, woF.go  m x0 x1 = some (woF.res (x0, x1, ()), [])) : SpecOK Try.prog 34 woF.sp :=
  woF.mkR fun x0 x1 hx => (H x0 x1 hx).elim fun _ hm => woF.ret  hs  x0 x1 hm

/-! ### triage/fit.Below$1 -/
abbrev beF.ps : List AK := [.d true TStatus, .p (.int .i64)]
def beF.pre : ElA beF.ps → Bool := fun (x : (El TStatus) × Int × Unit) => fits TStatus (x.1) && (fits (.int .i64) (x.2.1) && (true))
def beF.res : ElA beF.ps → IV := fun (x : (El TStatus) × Int × Unit) => (fun s c => vb (pBe c s)) x.1 x.2.1
def beF.sp : ISpec := spOf beF.ps beF.pre beF.res
abbrev beF.OK : Prop := SpecOK Try.prog 36 beF.sp
noncomputable def beF.body : Code := bodyOf Try.f36
noncomputable def beF.rs : List ResultVar := Try.f36.results.toList
def beF.live : List (Nat × Live) := []
noncomputable def beF.specs  : List (Nat × (List Bool × ISpec)) := []
noncomputable def beF.ospecs  : List (Nat × OS) := []
noncomputable def beF.cfg  : Cfg := ⟨lkp tab, lkp (beF.specs ), lkp beF.live, ⟨lkp (beF.ospecs ), [], none, false⟩⟩
noncomputable def beF.go  (m : Nat) (x0 : (El TStatus)) (x1 : Int) : R := run (beF.cfg ) 8 beF.rs m [.code beF.body] (enter (ivA beF.ps (x0, x1, ())))
theorem beF.start  (m : Nat) (x0 : (El TStatus)) (x1 : Int) : beF.go  (m + 1) x0 x1 =
  some ((.c (.v (.bool (decide (x0.2.2.2.2.2.2.2.2 < x1))))), []) := by kernel_rfl
theorem beF.run_eq  (m : Nat) (x0 : (El TStatus)) (x1 : Int) : run (beF.cfg ) Try.f36.ntmps Try.f36.results.toList m [.code (bodyOf Try.f36)] (enter (ivA beF.ps (x0, x1, ()))) = beF.go  m x0 x1 := by kernel_rfl
theorem beF.ret  (hs : SpecsOK Try.prog (beF.specs ))  (x0 : (El TStatus)) (x1 : Int) {m : Nat} {r : IV} (h : beF.go  m x0 x1 = some (r, [])) : VE.Returns Try.prog 36 (ivA beF.ps (x0, x1, ())) r :=
  returns_of_run (cfg := beF.cfg ) (cfgOK_of mixed tab_ok hs .nil) rfl Try.func36 (body_some (by kernel_rfl)) (Nat.le_of_ble_eq_true (by kernel_rfl)) ((beF.run_eq  m x0 x1).trans h)
abbrev beF.Law : Prop := ∀ (x0 : (El TStatus)) (x1 : Int), beF.pre (x0, x1, ()) = true → VE.Returns Try.prog 36 (ivA beF.ps (x0, x1, ())) (beF.res (x0, x1, ()))
theorem beF.mkR (H : ∀ (x0 : (El TStatus)) (x1 : Int), beF.pre (x0, x1, ()) = true → VE.Returns Try.prog 36 (ivA beF.ps (x0, x1, ())) (beF.res (x0, x1, ()))) : SpecOK Try.prog 36 beF.sp :=
  specOf_ret Try.func36 (by kernel_rfl) (by kernel_rfl) fun (x : (El TStatus) × Int × Unit) hx => H (x.1) (x.2.1) hx
theorem beF.mk  (hs : SpecsOK Try.prog (beF.specs ))  (H : ∀ (x0 : (El TStatus)) (x1 : Int), beF.pre (x0, x1, ()) = true → ∃ m, beF.go  m x0 x1 = some (beF.res (x0, x1, ()), [])) : SpecOK Try.prog 36 beF.sp :=
  beF.mkR fun x0 x1 hx => (H x0 x1 hx).elim fun _ hm => beF.ret  hs  x0 x1 hm

/-! ### triage/fit.those$1 -/
abbrev nOf.ps : List AK := [.d true TStatus, .pf 29 [(true, (.sl TPair))]]
def nOf.pre : ElA nOf.ps → Bool := fun (x : (El TStatus) × ((List (El TPair)) × Unit) × Unit) => fits TStatus (x.1) && (fits (.sl TPair) (x.2.1.1) && (true))
def nOf.res : ElA nOf.ps → IV := fun (x : (El TStatus) × ((List (El TPair)) × Unit) × Unit) => (fun s x => vb (noP (pOf x.1) s)) x.1 x.2.1
def nOf.sp : ISpec := spOf nOf.ps nOf.pre nOf.res
abbrev nOf.OK : Prop := SpecOK Try.prog 45 nOf.sp
noncomputable def nOf.body : Code := bodyOf Try.f45
noncomputable def nOf.rs : List ResultVar := Try.f45.results.toList
def nOf.live : List (Nat × Live) := []
noncomputable def nOf.specs  : List (Nat × (List Bool × ISpec)) := [(29, ([], ofF.sp))]
noncomputable def nOf.ospecs  : List (Nat × OS) := []
noncomputable def nOf.cfg  : Cfg := ⟨lkp tab, lkp (nOf.specs ), lkp nOf.live, ⟨lkp (nOf.ospecs ), [], none, false⟩⟩
noncomputable def nOf.go  (m : Nat) (x0 : (El TStatus)) (x1 : ((List (El TPair)) × Unit)) : R := run (nOf.cfg ) 8 nOf.rs m [.code nOf.body] (enter (ivA nOf.ps (x0, x1, ())))
theorem nOf.start  (m : Nat) (x0 : (El TStatus)) (x1 : ((List (El TPair)) × Unit)) : nOf.go  (m + 1) x0 x1 =
  test (ofF.pre (x0, (x1.1, Unit.unit))) (
   some ((.c (.v (.bool (Bool.not (pOf x1.1 x0))))), [])) := by kernel_rfl
theorem nOf.run_eq  (m : Nat) (x0 : (El TStatus)) (x1 : ((List (El TPair)) × Unit)) : run (nOf.cfg ) Try.f45.ntmps Try.f45.results.toList m [.code (bodyOf Try.f45)] (enter (ivA nOf.ps (x0, x1, ()))) = nOf.go  m x0 x1 := by kernel_rfl
theorem nOf.ret  (hs : SpecsOK Try.prog (nOf.specs ))  (x0 : (El TStatus)) (x1 : ((List (El TPair)) × Unit)) {m : Nat} {r : IV} (h : nOf.go  m x0 x1 = some (r, [])) : VE.Returns Try.prog 45 (ivA nOf.ps (x0, x1, ())) r :=
  returns_of_run (cfg := nOf.cfg ) (cfgOK_of mixed tab_ok hs .nil) rfl Try.func45 (body_some (by kernel_rfl)) (Nat.le_of_ble_eq_true (by kernel_rfl)) ((nOf.run_eq  m x0 x1).trans h)
abbrev nOf.Law : Prop := ∀ (x0 : (El TStatus)) (x1 : ((List (El TPair)) × Unit)), nOf.pre (x0, x1, ()) = true → VE.Returns Try.prog 45 (ivA nOf.ps (x0, x1, ())) (nOf.res (x0, x1, ()))
theorem nOf.mkR (H : ∀ (x0 : (El TStatus)) (x1 : ((List (El TPair)) × Unit)), nOf.pre (x0, x1, ()) = true → VE.Returns Try.prog 45 (ivA nOf.ps (x0, x1, ())) (nOf.res (x0, x1, ()))) : SpecOK Try.prog 45 nOf.sp :=
  specOf_ret Try.func45 (by kernel_rfl) (by kernel_rfl) fun (x : (El TStatus) × ((List (El TPair)) × Unit) × Unit) hx => H (x.1) (x.2.1) hx
theorem nOf.mk  (hs : SpecsOK Try.prog (nOf.specs ))  (H : ∀ (x0 : (El TStatus)) (x1 : ((List (El TPair)) × Unit)), nOf.pre (x0, x1, ()) = true → ∃ m, nOf.go  m x0 x1 = some (nOf.res (x0, x1, ()), [])) : SpecOK Try.prog 45 nOf.sp :=
  nOf.mkR fun x0 x1 hx => (H x0 x1 hx).elim fun _ hm => nOf.ret  hs  x0 x1 hm

/-! ### slices.IndexFunc(()triage/api.Status,triage/api.Status) -/
abbrev jxOf.ps : List AK := [.d false (.sl TStatus), .ff 45 29 [(true, (.sl TPair))]]
def jxOf.pre : ElA jxOf.ps → Bool := fun (x : (List (El TStatus)) × ((List (El TPair)) × Unit) × Unit) => fits (.sl TStatus) (x.1) && (fits (.sl TPair) (x.2.1.1) && (true))
def jxOf.res : ElA jxOf.ps → IV := fun (x : (List (El TStatus)) × ((List (El TPair)) × Unit) × Unit) => (fun l x => vi .i64 (ixOf (noP (pOf x.1)) l)) x.1 x.2.1
def jxOf.sp : ISpec := spOf jxOf.ps jxOf.pre jxOf.res
abbrev jxOf.OK : Prop := SpecOK Try.prog 51 jxOf.sp
noncomputable def jxOf.body : Code := bodyOf Try.f51
noncomputable def jxOf.rs : List ResultVar := Try.f51.results.toList
def jxOf.live : List (Nat × Live) := [(2, ⟨[(0, .sl TStatus), (1, .plain), (7, .plain), (8, .plain)], []⟩)]
noncomputable def jxOf.specs  : List (Nat × (List Bool × ISpec)) := [(45, ([], nOf.sp))]
noncomputable def jxOf.ospecs  : List (Nat × OS) := []
noncomputable def jxOf.cfg  : Cfg := ⟨lkp tab, lkp (jxOf.specs ), lkp jxOf.live, ⟨lkp (jxOf.ospecs ), [], none, false⟩⟩
noncomputable def jxOf.l1  (m : Nat) (x0 : List (El TStatus)) (x1 : List (El TPair)) (x2 : Int) (x3 : Int) : R := run (jxOf.cfg ) 19 jxOf.rs m ((todoR 2 jxOf.body []).getD []) ⟨ofList (.c .junk) [(0, (.c (.sl TStatus x0))), (1, (.c (.fn 45 [(.snap [(.fn 29 [(.snap [(.sl TPair x1)] 0)])] 0)]))), (7, (.c (.v (.int .i64 x2)))), (8, (.c (.v (.int .i64 x3))))], ofList none [], ofList false []⟩
noncomputable def jxOf.go  (m : Nat) (x0 : (List (El TStatus))) (x1 : ((List (El TPair)) × Unit)) : R := run (jxOf.cfg ) 19 jxOf.rs m [.code jxOf.body] (enter (ivA jxOf.ps (x0, x1, ())))
theorem jxOf.start  (m : Nat) (x0 : (List (El TStatus))) (x1 : ((List (El TPair)) × Unit)) : jxOf.go  (m + 1) x0 x1 =
  jxOf.l1  m x0 x1.1 ((List.length x0) : Int) (0 : Int) := by kernel_rfl
theorem jxOf.s1  (m : Nat) (x0 : List (El TStatus)) (x1 : List (El TPair)) (x2 : Int) (x3 : Int) : jxOf.l1  (m + 1) x0 x1 x2 x3 =
  cond (decide (x3 < x2)) (
   test (decide ((0 : Int) ≤ x3)) (
    test (decide (x3 < ((List.length x0) : Int))) (
     test (nOf.pre (((rdEl TStatus x0 (Int.toNat x3))), ((x1, Unit.unit), Unit.unit))) (
      cond (noP (pOf x1) ((rdEl TStatus x0 (Int.toNat x3)))) (
       some ((.c (.v (.int .i64 x3))), [])) (
       jxOf.l1  m x0 x1 x2 (IntKind.i64.wrap (x3 + (1 : Int)))))))) (
   some ((.c (.v (.int .i64 (-(1 : Int))))), [])) := by kernel_rfl
theorem jxOf.run_eq  (m : Nat) (x0 : (List (El TStatus))) (x1 : ((List (El TPair)) × Unit)) : run (jxOf.cfg ) Try.f51.ntmps Try.f51.results.toList m [.code (bodyOf Try.f51)] (enter (ivA jxOf.ps (x0, x1, ()))) = jxOf.go  m x0 x1 := by kernel_rfl
theorem jxOf.ret  (hs : SpecsOK Try.prog (jxOf.specs ))  (x0 : (List (El TStatus))) (x1 : ((List (El TPair)) × Unit)) {m : Nat} {r : IV} (h : jxOf.go  m x0 x1 = some (r, [])) : VE.Returns Try.prog 51 (ivA jxOf.ps (x0, x1, ())) r :=
  returns_of_run (cfg := jxOf.cfg ) (cfgOK_of mixed tab_ok hs .nil) rfl Try.func51 (body_some (by kernel_rfl)) (Nat.le_of_ble_eq_true (by kernel_rfl)) ((jxOf.run_eq  m x0 x1).trans h)
abbrev jxOf.Law : Prop := ∀ (x0 : (List (El TStatus))) (x1 : ((List (El TPair)) × Unit)), jxOf.pre (x0, x1, ()) = true → VE.Returns Try.prog 51 (ivA jxOf.ps (x0, x1, ())) (jxOf.res (x0, x1, ()))
theorem jxOf.mkR (H : ∀ (x0 : (List (El TStatus))) (x1 : ((List (El TPair)) × Unit)), jxOf.pre (x0, x1, ()) = true → VE.Returns Try.prog 51 (ivA jxOf.ps (x0, x1, ())) (jxOf.res (x0, x1, ()))) : SpecOK Try.prog 51 jxOf.sp :=
  specOf_ret Try.func51 (by kernel_rfl) (by kernel_rfl) fun (x : (List (El TStatus)) × ((List (El TPair)) × Unit) × Unit) hx => H (x.1) (x.2.1) hx
theorem jxOf.mk  (hs : SpecsOK Try.prog (jxOf.specs ))  (H : ∀ (x0 : (List (El TStatus))) (x1 : ((List (El TPair)) × Unit)), jxOf.pre (x0, x1, ()) = true → ∃ m, jxOf.go  m x0 x1 = some (jxOf.res (x0, x1, ()), [])) : SpecOK Try.prog 51 jxOf.sp :=
  jxOf.mkR fun x0 x1 hx => (H x0 x1 hx).elim fun _ hm => jxOf.ret  hs  x0 x1 hm

/-! ### slices.DeleteFunc(()triage/api.Status,triage/api.Status) -/
abbrev deOf.ps : List AK := [.m 43 TStatus, .ff 45 29 [(true, (.sl TPair))]]
def deOf.pre : ElA deOf.ps → Bool := fun (x : (List (El TStatus)) × ((List (El TPair)) × Unit) × Unit) => fits (.sl TStatus) (x.1) && (fits (.sl TPair) (x.2.1.1) && (true))
def deOf.rv : ElA deOf.ps → List RV := fun (x : (List (El TStatus)) × ((List (El TPair)) × Unit) × Unit) => [.m 43 TStatus ((fun l x => List.filter (pOf x.1) l) x.1 x.2.1)]
def deOf.res : ElA deOf.ps → IV := fun x => oneOrTup (rvIVs 0 (deOf.rv x))
def deOf.back : ElA deOf.ps → List (Nat × Box) := fun (x : (List (El TStatus)) × ((List (El TPair)) × Unit) × Unit) => rvBxs 0 (deOf.rv x)
def deOf.sp : OSpec := spO deOf.ps deOf.pre deOf.res deOf.back
abbrev deOf.OK : Prop := SpecOKO Try.prog 43 deOf.sp
noncomputable def deOf.body : Code := bodyOf Try.f43
noncomputable def deOf.rs : List ResultVar := Try.f43.results.toList
def deOf.live : List (Nat × Live) := [(5, ⟨[(0, .arr 43 TStatus), (1, .plain), (5, .plain), (6, .plain)], []⟩)]
noncomputable def deOf.specs  : List (Nat × (List Bool × ISpec)) := [(45, ([], nOf.sp)), (51, ([], jxOf.sp))]
noncomputable def deOf.ospecs  : List (Nat × OS) := []
noncomputable def deOf.cfg  : Cfg := ⟨lkp tab, lkp (deOf.specs ), lkp deOf.live, ⟨lkp (deOf.ospecs ), oids 0 deOf.ps, some ([.arr 43 TStatus], []), true⟩⟩
noncomputable def deOf.l1  (m : Nat) (x0 : List (El TPair)) (x1 : Int) (x2 : Int) (x3 : List (El TStatus)) : R := run (deOf.cfg ) 42 deOf.rs m ((todoR 5 deOf.body []).getD []) ⟨ofList (.c .junk) [(0, (.c (.sref 126))), (1, (.c (.fn 45 [(.snap [(.fn 29 [(.snap [(.sl TPair x0)] 0)])] 0)]))), (5, (.c (.v (.int .i64 x1)))), (6, (.c (.v (.int .i64 x2))))], ofList none [(126, some (.arr 43 TStatus x3 false))], ofList false [(126, true)]⟩
noncomputable def deOf.go  (m : Nat) (x0 : (List (El TStatus))) (x1 : ((List (El TPair)) × Unit)) : R := run (deOf.cfg ) 42 deOf.rs m [.code deOf.body] (enterO (ivAO 0 deOf.ps (x0, x1, ())) (bxAO 0 deOf.ps (x0, x1, ())))
theorem deOf.start  (m : Nat) (x0 : (List (El TStatus))) (x1 : ((List (El TPair)) × Unit)) : deOf.go  (m + 1) x0 x1 =
  test (jxOf.pre (x0, ((x1.1, Unit.unit), Unit.unit))) (
   cond ((ixOf (noP (pOf x1.1)) x0) == (-(1 : Int))) (
    some ((.c (.sref 115326)), [(115326, (.arr 43 TStatus x0 false))])) (
    deOf.l1  m x1.1 (ixOf (noP (pOf x1.1)) x0) (IntKind.i64.wrap ((ixOf (noP (pOf x1.1)) x0) + (1 : Int))) x0)) := by kernel_rfl
theorem deOf.s1  (m : Nat) (x0 : List (El TPair)) (x1 : Int) (x2 : Int) (x3 : List (El TStatus)) : deOf.l1  (m + 1) x0 x1 x2 x3 =
  cond (decide (x2 < ((List.length x3) : Int))) (
   test (decide ((0 : Int) ≤ x2)) (
    test (decide (x2 < ((List.length x3) : Int))) (
     test (nOf.pre (((rdEl TStatus x3 (Int.toNat x2))), ((x0, Unit.unit), Unit.unit))) (
      cond (Bool.not (noP (pOf x0) ((rdEl TStatus x3 (Int.toNat x2))))) (
       test (decide ((0 : Int) ≤ x1)) (
        test (decide (x1 < ((List.length x3) : Int))) (
         deOf.l1  m x0 (IntKind.i64.wrap (x1 + (1 : Int))) (IntKind.i64.wrap (x2 + (1 : Int))) (List.set x3 (Int.toNat x1) ((rdEl TStatus x3 (Int.toNat x2))))))) (
       deOf.l1  m x0 x1 (IntKind.i64.wrap (x2 + (1 : Int))) x3))))) (
   test (decide ((0 : Int) ≤ x1)) (
    test (decide (x1 ≤ ((List.length x3) : Int))) (
     test (decide (((0 + (Int.toNat x1)) + (List.length (List.replicate ((List.length x3) - (Int.toNat x1)) (((0 : Int), ((⟨#[]⟩ : ByteArray), ((0 : Int), ((⟨#[]⟩ : ByteArray), ((0 : Int), ([] : List (El TPair))))))), ((false, ((0 : Int), ((0 : Int), (0 : Int)))), ((0 : Int), (((0 : Int), (0 : Int)), ((false, ((0 : Int), ((0 : Int), (0 : Int)))), (false, ((0 : Int), ((0 : Int), (0 : Int)))))))))))) ≤ (List.length x3))) (
      test (decide ((0 : Int) ≤ x1)) (
       test (decide (x1 ≤ ((List.length (over x3 (0 + (Int.toNat x1)) (List.replicate ((List.length x3) - (Int.toNat x1)) (((0 : Int), ((⟨#[]⟩ : ByteArray), ((0 : Int), ((⟨#[]⟩ : ByteArray), ((0 : Int), ([] : List (El TPair))))))), ((false, ((0 : Int), ((0 : Int), (0 : Int)))), ((0 : Int), (((0 : Int), (0 : Int)), ((false, ((0 : Int), ((0 : Int), (0 : Int)))), (false, ((0 : Int), ((0 : Int), (0 : Int)))))))))))) : Int))) (
        test (decide (((Int.toNat x1) - 0) ≤ (List.length (over x3 (0 + (Int.toNat x1)) (List.replicate ((List.length x3) - (Int.toNat x1)) (((0 : Int), ((⟨#[]⟩ : ByteArray), ((0 : Int), ((⟨#[]⟩ : ByteArray), ((0 : Int), ([] : List (El TPair))))))), ((false, ((0 : Int), ((0 : Int), (0 : Int)))), ((0 : Int), (((0 : Int), (0 : Int)), ((false, ((0 : Int), ((0 : Int), (0 : Int)))), (false, ((0 : Int), ((0 : Int), (0 : Int)))))))))))))) (
         some ((.c (.sref 115326)), [(115326, (.arr 43 TStatus (List.take ((Int.toNat x1) - 0) (over x3 (0 + (Int.toNat x1)) (List.replicate ((List.length x3) - (Int.toNat x1)) (((0 : Int), ((⟨#[]⟩ : ByteArray), ((0 : Int), ((⟨#[]⟩ : ByteArray), ((0 : Int), ([] : List (El TPair))))))), ((false, ((0 : Int), ((0 : Int), (0 : Int)))), ((0 : Int), (((0 : Int), (0 : Int)), ((false, ((0 : Int), ((0 : Int), (0 : Int)))), (false, ((0 : Int), ((0 : Int), (0 : Int)))))))))))) false))])))))))) := by kernel_rfl
theorem deOf.run_eq  (m : Nat) (x0 : (List (El TStatus))) (x1 : ((List (El TPair)) × Unit)) : run (deOf.cfg ) Try.f43.ntmps Try.f43.results.toList m [.code (bodyOf Try.f43)] (enterO (ivAO 0 deOf.ps (x0, x1, ())) (bxAO 0 deOf.ps (x0, x1, ()))) = deOf.go  m x0 x1 := by kernel_rfl
theorem deOf.ret  (hs : SpecsOK Try.prog (deOf.specs ))  (x0 : (List (El TStatus))) (x1 : ((List (El TPair)) × Unit)) {m : Nat} {r : IV} {b : List (Nat × Box)} (h : deOf.go  m x0 x1 = some (r, b)) : VE.ReturnsO Try.prog 43 (ivAO 0 deOf.ps (x0, x1, ())) (bxAO 0 deOf.ps (x0, x1, ())) r b :=
  returnsO_of_run (cfg := deOf.cfg ) (cfgOK_of mixed tab_ok hs .nil) rfl Try.func43 (body_some (by kernel_rfl)) (Nat.le_of_ble_eq_true (by kernel_rfl)) (fun _ _ _ h => oids_mem h) ((deOf.run_eq  m x0 x1).trans h)
abbrev deOf.Law : Prop := ∀ (x0 : (List (El TStatus))) (x1 : ((List (El TPair)) × Unit)), deOf.pre (x0, x1, ()) = true → VE.ReturnsO Try.prog 43 (ivAO 0 deOf.ps (x0, x1, ())) (bxAO 0 deOf.ps (x0, x1, ())) (deOf.res (x0, x1, ())) (deOf.back (x0, x1, ()))
theorem deOf.mkR (H : ∀ (x0 : (List (El TStatus))) (x1 : ((List (El TPair)) × Unit)), deOf.pre (x0, x1, ()) = true → VE.ReturnsO Try.prog 43 (ivAO 0 deOf.ps (x0, x1, ())) (bxAO 0 deOf.ps (x0, x1, ())) (deOf.res (x0, x1, ())) (deOf.back (x0, x1, ()))) : SpecOKO Try.prog 43 deOf.sp :=
  specO_ret Try.func43 (by kernel_rfl) (by kernel_rfl) fun (x : (List (El TStatus)) × ((List (El TPair)) × Unit) × Unit) hx => H (x.1) (x.2.1) hx
theorem deOf.mk  (hs : SpecsOK Try.prog (deOf.specs ))  (H : ∀ (x0 : (List (El TStatus))) (x1 : ((List (El TPair)) × Unit)), deOf.pre (x0, x1, ()) = true → ∃ m, deOf.go  m x0 x1 = some (deOf.res (x0, x1, ()), deOf.back (x0, x1, ()))) : SpecOKO Try.prog 43 deOf.sp :=
  deOf.mkR fun x0 x1 hx => (H x0 x1 hx).elim fun _ hm => deOf.ret  hs  x0 x1 hm

/-! ### triage/fit.those -/
abbrev thOf.ps : List AK := [.d false (.sl TStatus), .f 29 [(true, (.sl TPair))]]
def thOf.pre : ElA thOf.ps → Bool := fun (x : (List (El TStatus)) × ((List (El TPair)) × Unit) × Unit) => fits (.sl TStatus) (x.1) && (fits (.sl TPair) (x.2.1.1) && (true))
def thOf.res : ElA thOf.ps → IV := fun (x : (List (El TStatus)) × ((List (El TPair)) × Unit) × Unit) => (fun l x => .c (.sl TStatus (List.filter (pOf x.1) l))) x.1 x.2.1
def thOf.sp : ISpec := spOf thOf.ps thOf.pre thOf.res
abbrev thOf.OK : Prop := SpecOK Try.prog 28 thOf.sp
noncomputable def thOf.body : Code := bodyOf Try.f28
noncomputable def thOf.rs : List ResultVar := Try.f28.results.toList
def thOf.live : List (Nat × Live) := []
noncomputable def thOf.specs  : List (Nat × (List Bool × ISpec)) := []
noncomputable def thOf.ospecs  : List (Nat × OS) := [(44, ⟨[], [], copySO.sp⟩), (43, ⟨[some (.arr 43 TStatus)], [], deOf.sp⟩)]
noncomputable def thOf.cfg  : Cfg := ⟨lkp tab, lkp (thOf.specs ), lkp thOf.live, ⟨lkp (thOf.ospecs ), [], none, false⟩⟩
noncomputable def thOf.go  (m : Nat) (x0 : (List (El TStatus))) (x1 : ((List (El TPair)) × Unit)) : R := run (thOf.cfg ) 9 thOf.rs m [.code thOf.body] (enter (ivA thOf.ps (x0, x1, ())))
theorem thOf.start  (m : Nat) (x0 : (List (El TStatus))) (x1 : ((List (El TPair)) × Unit)) : thOf.go  (m + 1) x0 x1 =
  test (copySO.pre (x0, Unit.unit)) (
   test (deOf.pre (x0, ((x1.1, Unit.unit), Unit.unit))) (
    some ((.c (.sl TStatus (List.filter (pOf x1.1) x0))), []))) := by kernel_rfl
theorem thOf.run_eq  (m : Nat) (x0 : (List (El TStatus))) (x1 : ((List (El TPair)) × Unit)) : run (thOf.cfg ) Try.f28.ntmps Try.f28.results.toList m [.code (bodyOf Try.f28)] (enter (ivA thOf.ps (x0, x1, ()))) = thOf.go  m x0 x1 := by kernel_rfl
theorem thOf.ret  (hs : SpecsOK Try.prog (thOf.specs )) (ho : OSpecsOK Try.prog (thOf.ospecs )) (x0 : (List (El TStatus))) (x1 : ((List (El TPair)) × Unit)) {m : Nat} {r : IV} (h : thOf.go  m x0 x1 = some (r, [])) : VE.Returns Try.prog 28 (ivA thOf.ps (x0, x1, ())) r :=
  returns_of_run (cfg := thOf.cfg ) (cfgOK_of mixed tab_ok hs ho) rfl Try.func28 (body_some (by kernel_rfl)) (Nat.le_of_ble_eq_true (by kernel_rfl)) ((thOf.run_eq  m x0 x1).trans h)
abbrev thOf.Law : Prop := ∀ (x0 : (List (El TStatus))) (x1 : ((List (El TPair)) × Unit)), thOf.pre (x0, x1, ()) = true → VE.Returns Try.prog 28 (ivA thOf.ps (x0, x1, ())) (thOf.res (x0, x1, ()))
theorem thOf.mkR (H : ∀ (x0 : (List (El TStatus))) (x1 : ((List (El TPair)) × Unit)), thOf.pre (x0, x1, ()) = true → VE.Returns Try.prog 28 (ivA thOf.ps (x0, x1, ())) (thOf.res (x0, x1, ()))) : SpecOK Try.prog 28 thOf.sp :=
  specOf_ret Try.func28 (by kernel_rfl) (by kernel_rfl) fun (x : (List (El TStatus)) × ((List (El TPair)) × Unit) × Unit) hx => H (x.1) (x.2.1) hx
theorem thOf.mk  (hs : SpecsOK Try.prog (thOf.specs )) (ho : OSpecsOK Try.prog (thOf.ospecs )) (H : ∀ (x0 : (List (El TStatus))) (x1 : ((List (El TPair)) × Unit)), thOf.pre (x0, x1, ()) = true → ∃ m, thOf.go  m x0 x1 = some (thOf.res (x0, x1, ()), [])) : SpecOK Try.prog 28 thOf.sp :=
  thOf.mkR fun x0 x1 hx => (H x0 x1 hx).elim fun _ hm => thOf.ret  hs ho x0 x1 hm

/-! ### triage/fit.those$1 -/
abbrev nGr.ps : List AK := [.d true TStatus, .pf 31 [(true, (.int .i64))]]
def nGr.pre : ElA nGr.ps → Bool := fun (x : (El TStatus) × (Int × Unit) × Unit) => fits TStatus (x.1) && (fits (.int .i64) (x.2.1.1) && (true))
def nGr.res : ElA nGr.ps → IV := fun (x : (El TStatus) × (Int × Unit) × Unit) => (fun s x => vb (noP (pGr x.1) s)) x.1 x.2.1
def nGr.sp : ISpec := spOf nGr.ps nGr.pre nGr.res
abbrev nGr.OK : Prop := SpecOK Try.prog 45 nGr.sp
noncomputable def nGr.body : Code := bodyOf Try.f45
noncomputable def nGr.rs : List ResultVar := Try.f45.results.toList
def nGr.live : List (Nat × Live) := []
noncomputable def nGr.specs  : List (Nat × (List Bool × ISpec)) := [(31, ([], grF.sp))]
noncomputable def nGr.ospecs  : List (Nat × OS) := []
noncomputable def nGr.cfg  : Cfg := ⟨lkp tab, lkp (nGr.specs ), lkp nGr.live, ⟨lkp (nGr.ospecs ), [], none, false⟩⟩
noncomputable def nGr.go  (m : Nat) (x0 : (El TStatus)) (x1 : (Int × Unit)) : R := run (nGr.cfg ) 8 nGr.rs m [.code nGr.body] (enter (ivA nGr.ps (x0, x1, ())))
theorem nGr.start  (m : Nat) (x0 : (El TStatus)) (x1 : (Int × Unit)) : nGr.go  (m + 1) x0 x1 =
  test (grF.pre (x0, (x1.1, Unit.unit))) (
   some ((.c (.v (.bool (Bool.not (pGr x1.1 x0))))), [])) := by kernel_rfl
theorem nGr.run_eq  (m : Nat) (x0 : (El TStatus)) (x1 : (Int × Unit)) : run (nGr.cfg ) Try.f45.ntmps Try.f45.results.toList m [.code (bodyOf Try.f45)] (enter (ivA nGr.ps (x0, x1, ()))) = nGr.go  m x0 x1 := by kernel_rfl
theorem nGr.ret  (hs : SpecsOK Try.prog (nGr.specs ))  (x0 : (El TStatus)) (x1 : (Int × Unit)) {m : Nat} {r : IV} (h : nGr.go  m x0 x1 = some (r, [])) : VE.Returns Try.prog 45 (ivA nGr.ps (x0, x1, ())) r :=
  returns_of_run (cfg := nGr.cfg ) (cfgOK_of mixed tab_ok hs .nil) rfl Try.func45 (body_some (by kernel_rfl)) (Nat.le_of_ble_eq_true (by kernel_rfl)) ((nGr.run_eq  m x0 x1).trans h)
abbrev nGr.Law : Prop := ∀ (x0 : (El TStatus)) (x1 : (Int × Unit)), nGr.pre (x0, x1, ()) = true → VE.Returns Try.prog 45 (ivA nGr.ps (x0, x1, ())) (nGr.res (x0, x1, ()))
theorem nGr.mkR (H : ∀ (x0 : (El TStatus)) (x1 : (Int × Unit)), nGr.pre (x0, x1, ()) = true → VE.Returns Try.prog 45 (ivA nGr.ps (x0, x1, ())) (nGr.res (x0, x1, ()))) : SpecOK Try.prog 45 nGr.sp :=
  specOf_ret Try.func45 (by kernel_rfl) (by kernel_rfl) fun (x : (El TStatus) × (Int × Unit) × Unit) hx => H (x.1) (x.2.1) hx
theorem nGr.mk  (hs : SpecsOK Try.prog (nGr.specs ))  (H : ∀ (x0 : (El TStatus)) (x1 : (Int × Unit)), nGr.pre (x0, x1, ()) = true → ∃ m, nGr.go  m x0 x1 = some (nGr.res (x0, x1, ()), [])) : SpecOK Try.prog 45 nGr.sp :=
  nGr.mkR fun x0 x1 hx => (H x0 x1 hx).elim fun _ hm => nGr.ret  hs  x0 x1 hm

/-! ### slices.IndexFunc(()triage/api.Status,triage/api.Status) -/
abbrev jxGr.ps : List AK := [.d false (.sl TStatus), .ff 45 31 [(true, (.int .i64))]]
def jxGr.pre : ElA jxGr.ps → Bool := fun (x : (List (El TStatus)) × (Int × Unit) × Unit) => fits (.sl TStatus) (x.1) && (fits (.int .i64) (x.2.1.1) && (true))
def jxGr.res : ElA jxGr.ps → IV := fun (x : (List (El TStatus)) × (Int × Unit) × Unit) => (fun l x => vi .i64 (ixOf (noP (pGr x.1)) l)) x.1 x.2.1
def jxGr.sp : ISpec := spOf jxGr.ps jxGr.pre jxGr.res
abbrev jxGr.OK : Prop := SpecOK Try.prog 51 jxGr.sp
noncomputable def jxGr.body : Code := bodyOf Try.f51
noncomputable def jxGr.rs : List ResultVar := Try.f51.results.toList
def jxGr.live : List (Nat × Live) := [(2, ⟨[(0, .sl TStatus), (1, .plain), (7, .plain), (8, .plain)], []⟩)]
noncomputable def jxGr.specs  : List (Nat × (List Bool × ISpec)) := [(45, ([], nGr.sp))]
noncomputable def jxGr.ospecs  : List (Nat × OS) := []
noncomputable def jxGr.cfg  : Cfg := ⟨lkp tab, lkp (jxGr.specs ), lkp jxGr.live, ⟨lkp (jxGr.ospecs ), [], none, false⟩⟩
noncomputable def jxGr.l1  (m : Nat) (x0 : List (El TStatus)) (x1 : Int) (x2 : Int) (x3 : Int) : R := run (jxGr.cfg ) 19 jxGr.rs m ((todoR 2 jxGr.body []).getD []) ⟨ofList (.c .junk) [(0, (.c (.sl TStatus x0))), (1, (.c (.fn 45 [(.snap [(.fn 31 [(.snap [(.v (.int .i64 x1))] 0)])] 0)]))), (7, (.c (.v (.int .i64 x2)))), (8, (.c (.v (.int .i64 x3))))], ofList none [], ofList false []⟩
noncomputable def jxGr.go  (m : Nat) (x0 : (List (El TStatus))) (x1 : (Int × Unit)) : R := run (jxGr.cfg ) 19 jxGr.rs m [.code jxGr.body] (enter (ivA jxGr.ps (x0, x1, ())))
theorem jxGr.start  (m : Nat) (x0 : (List (El TStatus))) (x1 : (Int × Unit)) : jxGr.go  (m + 1) x0 x1 =
  jxGr.l1  m x0 x1.1 ((List.length x0) : Int) (0 : Int) := by kernel_rfl
theorem jxGr.s1  (m : Nat) (x0 : List (El TStatus)) (x1 : Int) (x2 : Int) (x3 : Int) : jxGr.l1  (m + 1) x0 x1 x2 x3 =
  cond (decide (x3 < x2)) (
   test (decide ((0 : Int) ≤ x3)) (
    test (decide (x3 < ((List.length x0) : Int))) (
     test (nGr.pre (((rdEl TStatus x0 (Int.toNat x3))), ((x1, Unit.unit), Unit.unit))) (
      cond (noP (pGr x1) ((rdEl TStatus x0 (Int.toNat x3)))) (
       some ((.c (.v (.int .i64 x3))), [])) (
       jxGr.l1  m x0 x1 x2 (IntKind.i64.wrap (x3 + (1 : Int)))))))) (
   some ((.c (.v (.int .i64 (-(1 : Int))))), [])) := by kernel_rfl
theorem jxGr.run_eq  (m : Nat) (x0 : (List (El TStatus))) (x1 : (Int × Unit)) : run (jxGr.cfg ) Try.f51.ntmps Try.f51.results.toList m [.code (bodyOf Try.f51)] (enter (ivA jxGr.ps (x0, x1, ()))) = jxGr.go  m x0 x1 := by kernel_rfl
theorem jxGr.ret  (hs : SpecsOK Try.prog (jxGr.specs ))  (x0 : (List (El TStatus))) (x1 : (Int × Unit)) {m : Nat} {r : IV} (h : jxGr.go  m x0 x1 = some (r, [])) : VE.Returns Try.prog 51 (ivA jxGr.ps (x0, x1, ())) r :=
  returns_of_run (cfg := jxGr.cfg ) (cfgOK_of mixed tab_ok hs .nil) rfl Try.func51 (body_some (by kernel_rfl)) (Nat.le_of_ble_eq_true (by kernel_rfl)) ((jxGr.run_eq  m x0 x1).trans h)
abbrev jxGr.Law : Prop := ∀ (x0 : (List (El TStatus))) (x1 : (Int × Unit)), jxGr.pre (x0, x1, ()) = true → VE.Returns Try.prog 51 (ivA jxGr.ps (x0, x1, ())) (jxGr.res (x0, x1, ()))
theorem jxGr.mkR (H : ∀ (x0 : (List (El TStatus))) (x1 : (Int × Unit)), jxGr.pre (x0, x1, ()) = true → VE.Returns Try.prog 51 (ivA jxGr.ps (x0, x1, ())) (jxGr.res (x0, x1, ()))) : SpecOK Try.prog 51 jxGr.sp :=
  specOf_ret Try.func51 (by kernel_rfl) (by kernel_rfl) fun (x : (List (El TStatus)) × (Int × Unit) × Unit) hx => H (x.1) (x.2.1) hx
theorem jxGr.mk  (hs : SpecsOK Try.prog (jxGr.specs ))  (H : ∀ (x0 : (List (El TStatus))) (x1 : (Int × Unit)), jxGr.pre (x0, x1, ()) = true → ∃ m, jxGr.go  m x0 x1 = some (jxGr.res (x0, x1, ()), [])) : SpecOK Try.prog 51 jxGr.sp :=
  jxGr.mkR fun x0 x1 hx => (H x0 x1 hx).elim fun _ hm => jxGr.ret  hs  x0 x1 hm

/-! ### slices.DeleteFunc(()triage/api.Status,triage/api.Status) -/
abbrev deGr.ps : List AK := [.m 43 TStatus, .ff 45 31 [(true, (.int .i64))]]
def deGr.pre : ElA deGr.ps → Bool := fun (x : (List (El TStatus)) × (Int × Unit) × Unit) => fits (.sl TStatus) (x.1) && (fits (.int .i64) (x.2.1.1) && (true))
def deGr.rv : ElA deGr.ps → List RV := fun (x : (List (El TStatus)) × (Int × Unit) × Unit) => [.m 43 TStatus ((fun l x => List.filter (pGr x.1) l) x.1 x.2.1)]
def deGr.res : ElA deGr.ps → IV := fun x => oneOrTup (rvIVs 0 (deGr.rv x))
def deGr.back : ElA deGr.ps → List (Nat × Box) := fun (x : (List (El TStatus)) × (Int × Unit) × Unit) => rvBxs 0 (deGr.rv x)
def deGr.sp : OSpec := spO deGr.ps deGr.pre deGr.res deGr.back
abbrev deGr.OK : Prop := SpecOKO Try.prog 43 deGr.sp
noncomputable def deGr.body : Code := bodyOf Try.f43
noncomputable def deGr.rs : List ResultVar := Try.f43.results.toList
def deGr.live : List (Nat × Live) := [(5, ⟨[(0, .arr 43 TStatus), (1, .plain), (5, .plain), (6, .plain)], []⟩)]
noncomputable def deGr.specs  : List (Nat × (List Bool × ISpec)) := [(45, ([], nGr.sp)), (51, ([], jxGr.sp))]
noncomputable def deGr.ospecs  : List (Nat × OS) := []
noncomputable def deGr.cfg  : Cfg := ⟨lkp tab, lkp (deGr.specs ), lkp deGr.live, ⟨lkp (deGr.ospecs ), oids 0 deGr.ps, some ([.arr 43 TStatus], []), true⟩⟩
noncomputable def deGr.l1  (m : Nat) (x0 : Int) (x1 : Int) (x2 : Int) (x3 : List (El TStatus)) : R := run (deGr.cfg ) 42 deGr.rs m ((todoR 5 deGr.body []).getD []) ⟨ofList (.c .junk) [(0, (.c (.sref 126))), (1, (.c (.fn 45 [(.snap [(.fn 31 [(.snap [(.v (.int .i64 x0))] 0)])] 0)]))), (5, (.c (.v (.int .i64 x1)))), (6, (.c (.v (.int .i64 x2))))], ofList none [(126, some (.arr 43 TStatus x3 false))], ofList false [(126, true)]⟩
noncomputable def deGr.go  (m : Nat) (x0 : (List (El TStatus))) (x1 : (Int × Unit)) : R := run (deGr.cfg ) 42 deGr.rs m [.code deGr.body] (enterO (ivAO 0 deGr.ps (x0, x1, ())) (bxAO 0 deGr.ps (x0, x1, ())))
theorem deGr.start  (m : Nat) (x0 : (List (El TStatus))) (x1 : (Int × Unit)) : deGr.go  (m + 1) x0 x1 =
  test (jxGr.pre (x0, ((x1.1, Unit.unit), Unit.unit))) (
   cond ((ixOf (noP (pGr x1.1)) x0) == (-(1 : Int))) (
    some ((.c (.sref 115326)), [(115326, (.arr 43 TStatus x0 false))])) (
    deGr.l1  m x1.1 (ixOf (noP (pGr x1.1)) x0) (IntKind.i64.wrap ((ixOf (noP (pGr x1.1)) x0) + (1 : Int))) x0)) := by kernel_rfl
theorem deGr.s1  (m : Nat) (x0 : Int) (x1 : Int) (x2 : Int) (x3 : List (El TStatus)) : deGr.l1  (m + 1) x0 x1 x2 x3 =
  cond (decide (x2 < ((List.length x3) : Int))) (
   test (decide ((0 : Int) ≤ x2)) (
    test (decide (x2 < ((List.length x3) : Int))) (
     test (nGr.pre (((rdEl TStatus x3 (Int.toNat x2))), ((x0, Unit.unit), Unit.unit))) (
      cond (Bool.not (noP (pGr x0) ((rdEl TStatus x3 (Int.toNat x2))))) (
       test (decide ((0 : Int) ≤ x1)) (
        test (decide (x1 < ((List.length x3) : Int))) (
         deGr.l1  m x0 (IntKind.i64.wrap (x1 + (1 : Int))) (IntKind.i64.wrap (x2 + (1 : Int))) (List.set x3 (Int.toNat x1) ((rdEl TStatus x3 (Int.toNat x2))))))) (
       deGr.l1  m x0 x1 (IntKind.i64.wrap (x2 + (1 : Int))) x3))))) (
   test (decide ((0 : Int) ≤ x1)) (
    test (decide (x1 ≤ ((List.length x3) : Int))) (
     test (decide (((0 + (Int.toNat x1)) + (List.length (List.replicate ((List.length x3) - (Int.toNat x1)) (((0 : Int), ((⟨#[]⟩ : ByteArray), ((0 : Int), ((⟨#[]⟩ : ByteArray), ((0 : Int), ([] : List (El TPair))))))), ((false, ((0 : Int), ((0 : Int), (0 : Int)))), ((0 : Int), (((0 : Int), (0 : Int)), ((false, ((0 : Int), ((0 : Int), (0 : Int)))), (false, ((0 : Int), ((0 : Int), (0 : Int)))))))))))) ≤ (List.length x3))) (
      test (decide ((0 : Int) ≤ x1)) (
       test (decide (x1 ≤ ((List.length (over x3 (0 + (Int.toNat x1)) (List.replicate ((List.length x3) - (Int.toNat x1)) (((0 : Int), ((⟨#[]⟩ : ByteArray), ((0 : Int), ((⟨#[]⟩ : ByteArray), ((0 : Int), ([] : List (El TPair))))))), ((false, ((0 : Int), ((0 : Int), (0 : Int)))), ((0 : Int), (((0 : Int), (0 : Int)), ((false, ((0 : Int), ((0 : Int), (0 : Int)))), (false, ((0 : Int), ((0 : Int), (0 : Int)))))))))))) : Int))) (
        test (decide (((Int.toNat x1) - 0) ≤ (List.length (over x3 (0 + (Int.toNat x1)) (List.replicate ((List.length x3) - (Int.toNat x1)) (((0 : Int), ((⟨#[]⟩ : ByteArray), ((0 : Int), ((⟨#[]⟩ : ByteArray), ((0 : Int), ([] : List (El TPair))))))), ((false, ((0 : Int), ((0 : Int), (0 : Int)))), ((0 : Int), (((0 : Int), (0 : Int)), ((false, ((0 : Int), ((0 : Int), (0 : Int)))), (false, ((0 : Int), ((0 : Int), (0 : Int)))))))))))))) (
         some ((.c (.sref 115326)), [(115326, (.arr 43 TStatus (List.take ((Int.toNat x1) - 0) (over x3 (0 + (Int.toNat x1)) (List.replicate ((List.length x3) - (Int.toNat x1)) (((0 : Int), ((⟨#[]⟩ : ByteArray), ((0 : Int), ((⟨#[]⟩ : ByteArray), ((0 : Int), ([] : List (El TPair))))))), ((false, ((0 : Int), ((0 : Int), (0 : Int)))), ((0 : Int), (((0 : Int), (0 : Int)), ((false, ((0 : Int), ((0 : Int), (0 : Int)))), (false, ((0 : Int), ((0 : Int), (0 : Int)))))))))))) false))])))))))) := by kernel_rfl
theorem deGr.run_eq  (m : Nat) (x0 : (List (El TStatus))) (x1 : (Int × Unit)) : run (deGr.cfg ) Try.f43.ntmps Try.f43.results.toList m [.code (bodyOf Try.f43)] (enterO (ivAO 0 deGr.ps (x0, x1, ())) (bxAO 0 deGr.ps (x0, x1, ()))) = deGr.go  m x0 x1 := by kernel_rfl
theorem deGr.ret  (hs : SpecsOK Try.prog (deGr.specs ))  (x0 : (List (El TStatus))) (x1 : (Int × Unit)) {m : Nat} {r : IV} {b : List (Nat × Box)} (h : deGr.go  m x0 x1 = some (r, b)) : VE.ReturnsO Try.prog 43 (ivAO 0 deGr.ps (x0, x1, ())) (bxAO 0 deGr.ps (x0, x1, ())) r b :=
  returnsO_of_run (cfg := deGr.cfg ) (cfgOK_of mixed tab_ok hs .nil) rfl Try.func43 (body_some (by kernel_rfl)) (Nat.le_of_ble_eq_true (by kernel_rfl)) (fun _ _ _ h => oids_mem h) ((deGr.run_eq  m x0 x1).trans h)
abbrev deGr.Law : Prop := ∀ (x0 : (List (El TStatus))) (x1 : (Int × Unit)), deGr.pre (x0, x1, ()) = true → VE.ReturnsO Try.prog 43 (ivAO 0 deGr.ps (x0, x1, ())) (bxAO 0 deGr.ps (x0, x1, ())) (deGr.res (x0, x1, ())) (deGr.back (x0, x1, ()))
theorem deGr.mkR (H : ∀ (x0 : (List (El TStatus))) (x1 : (Int × Unit)), deGr.pre (x0, x1, ()) = true → VE.ReturnsO Try.prog 43 (ivAO 0 deGr.ps (x0, x1, ())) (bxAO 0 deGr.ps (x0, x1, ())) (deGr.res (x0, x1, ())) (deGr.back (x0, x1, ()))) : SpecOKO Try.prog 43 deGr.sp :=
  specO_ret Try.func43 (by kernel_rfl) (by kernel_rfl) fun (x : (List (El TStatus)) × (Int × Unit) × Unit) hx => H (x.1) (x.2.1) hx
theorem deGr.mk  (hs : SpecsOK Try.prog (deGr.specs ))  (H : ∀ (x0 : (List (El TStatus))) (x1 : (Int × Unit)), deGr.pre (x0, x1, ()) = true → ∃ m, deGr.go  m x0 x1 = some (deGr.res (x0, x1, ()), deGr.back (x0, x1, ()))) : SpecOKO Try.prog 43 deGr.sp :=
  deGr.mkR fun x0 x1 hx => (H x0 x1 hx).elim fun _ hm => deGr.ret  hs  x0 x1 hm

/-! ### triage/fit.those -/
abbrev thGr.ps : List AK := [.d false (.sl TStatus), .f 31 [(true, (.int .i64))]]
def thGr.pre : ElA thGr.ps → Bool := fun (x : (List (El TStatus)) × (Int × Unit) × Unit) => fits (.sl TStatus) (x.1) && (fits (.int .i64) (x.2.1.1) && (true))
def thGr.res : ElA thGr.ps → IV := fun (x : (List (El TStatus)) × (Int × Unit) × Unit) => (fun l x => .c (.sl TStatus (List.filter (pGr x.1) l))) x.1 x.2.1
def thGr.sp : ISpec := spOf thGr.ps thGr.pre thGr.res
abbrev thGr.OK : Prop := SpecOK Try.prog 28 thGr.sp
noncomputable def thGr.body : Code := bodyOf Try.f28
noncomputable def thGr.rs : List ResultVar := Try.f28.results.toList
def thGr.live : List (Nat × Live) := []
noncomputable def thGr.specs  : List (Nat × (List Bool × ISpec)) := []
noncomputable def thGr.ospecs  : List (Nat × OS) := [(44, ⟨[], [], copySO.sp⟩), (43, ⟨[some (.arr 43 TStatus)], [], deGr.sp⟩)]
noncomputable def thGr.cfg  : Cfg := ⟨lkp tab, lkp (thGr.specs ), lkp thGr.live, ⟨lkp (thGr.ospecs ), [], none, false⟩⟩
noncomputable def thGr.go  (m : Nat) (x0 : (List (El TStatus))) (x1 : (Int × Unit)) : R := run (thGr.cfg ) 9 thGr.rs m [.code thGr.body] (enter (ivA thGr.ps (x0, x1, ())))
theorem thGr.start  (m : Nat) (x0 : (List (El TStatus))) (x1 : (Int × Unit)) : thGr.go  (m + 1) x0 x1 =
  test (copySO.pre (x0, Unit.unit)) (
   test (deGr.pre (x0, ((x1.1, Unit.unit), Unit.unit))) (
    some ((.c (.sl TStatus (List.filter (pGr x1.1) x0))), []))) := by kernel_rfl
theorem thGr.run_eq  (m : Nat) (x0 : (List (El TStatus))) (x1 : (Int × Unit)) : run (thGr.cfg ) Try.f28.ntmps Try.f28.results.toList m [.code (bodyOf Try.f28)] (enter (ivA thGr.ps (x0, x1, ()))) = thGr.go  m x0 x1 := by kernel_rfl
theorem thGr.ret  (hs : SpecsOK Try.prog (thGr.specs )) (ho : OSpecsOK Try.prog (thGr.ospecs )) (x0 : (List (El TStatus))) (x1 : (Int × Unit)) {m : Nat} {r : IV} (h : thGr.go  m x0 x1 = some (r, [])) : VE.Returns Try.prog 28 (ivA thGr.ps (x0, x1, ())) r :=
  returns_of_run (cfg := thGr.cfg ) (cfgOK_of mixed tab_ok hs ho) rfl Try.func28 (body_some (by kernel_rfl)) (Nat.le_of_ble_eq_true (by kernel_rfl)) ((thGr.run_eq  m x0 x1).trans h)
abbrev thGr.Law : Prop := ∀ (x0 : (List (El TStatus))) (x1 : (Int × Unit)), thGr.pre (x0, x1, ()) = true → VE.Returns Try.prog 28 (ivA thGr.ps (x0, x1, ())) (thGr.res (x0, x1, ()))
theorem thGr.mkR (H : ∀ (x0 : (List (El TStatus))) (x1 : (Int × Unit)), thGr.pre (x0, x1, ()) = true → VE.Returns Try.prog 28 (ivA thGr.ps (x0, x1, ())) (thGr.res (x0, x1, ()))) : SpecOK Try.prog 28 thGr.sp :=
  specOf_ret Try.func28 (by kernel_rfl) (by kernel_rfl) fun (x : (List (El TStatus)) × (Int × Unit) × Unit) hx => H (x.1) (x.2.1) hx
theorem thGr.mk  (hs : SpecsOK Try.prog (thGr.specs )) (ho : OSpecsOK Try.prog (thGr.ospecs )) (H : ∀ (x0 : (List (El TStatus))) (x1 : (Int × Unit)), thGr.pre (x0, x1, ()) = true → ∃ m, thGr.go  m x0 x1 = some (thGr.res (x0, x1, ()), [])) : SpecOK Try.prog 28 thGr.sp :=
  thGr.mkR fun x0 x1 hx => (H x0 x1 hx).elim fun _ hm => thGr.ret  hs ho x0 x1 hm

/-! ### triage/fit.those$1 -/
abbrev nFr.ps : List AK := [.d true TStatus, .pf 33 []]
def nFr.pre : ElA nFr.ps → Bool := fun (x : (El TStatus) × Unit × Unit) => fits TStatus (x.1) && (true)
def nFr.res : ElA nFr.ps → IV := fun (x : (El TStatus) × Unit × Unit) => (fun s x => vb (noP (freeB) s)) x.1 x.2.1
def nFr.sp : ISpec := spOf nFr.ps nFr.pre nFr.res
abbrev nFr.OK : Prop := SpecOK Try.prog 45 nFr.sp
noncomputable def nFr.body : Code := bodyOf Try.f45
noncomputable def nFr.rs : List ResultVar := Try.f45.results.toList
def nFr.live : List (Nat × Live) := []
noncomputable def nFr.specs  : List (Nat × (List Bool × ISpec)) := [(33, ([], free.sp))]
noncomputable def nFr.ospecs  : List (Nat × OS) := []
noncomputable def nFr.cfg  : Cfg := ⟨lkp tab, lkp (nFr.specs ), lkp nFr.live, ⟨lkp (nFr.ospecs ), [], none, false⟩⟩
noncomputable def nFr.go  (m : Nat) (x0 : (El TStatus)) (x1 : Unit) : R := run (nFr.cfg ) 8 nFr.rs m [.code nFr.body] (enter (ivA nFr.ps (x0, x1, ())))
theorem nFr.start  (m : Nat) (x0 : (El TStatus)) (x1 : Unit) : nFr.go  (m + 1) x0 x1 =
  test (free.pre (x0, Unit.unit)) (
   some ((.c (.v (.bool (Bool.not (freeB x0))))), [])) := by kernel_rfl
theorem nFr.run_eq  (m : Nat) (x0 : (El TStatus)) (x1 : Unit) : run (nFr.cfg ) Try.f45.ntmps Try.f45.results.toList m [.code (bodyOf Try.f45)] (enter (ivA nFr.ps (x0, x1, ()))) = nFr.go  m x0 x1 := by kernel_rfl
theorem nFr.ret  (hs : SpecsOK Try.prog (nFr.specs ))  (x0 : (El TStatus)) (x1 : Unit) {m : Nat} {r : IV} (h : nFr.go  m x0 x1 = some (r, [])) : VE.Returns Try.prog 45 (ivA nFr.ps (x0, x1, ())) r :=
  returns_of_run (cfg := nFr.cfg ) (cfgOK_of mixed tab_ok hs .nil) rfl Try.func45 (body_some (by kernel_rfl)) (Nat.le_of_ble_eq_true (by kernel_rfl)) ((nFr.run_eq  m x0 x1).trans h)
abbrev nFr.Law : Prop := ∀ (x0 : (El TStatus)) (x1 : Unit), nFr.pre (x0, x1, ()) = true → VE.Returns Try.prog 45 (ivA nFr.ps (x0, x1, ())) (nFr.res (x0, x1, ()))
theorem nFr.mkR (H : ∀ (x0 : (El TStatus)) (x1 : Unit), nFr.pre (x0, x1, ()) = true → VE.Returns Try.prog 45 (ivA nFr.ps (x0, x1, ())) (nFr.res (x0, x1, ()))) : SpecOK Try.prog 45 nFr.sp :=
  specOf_ret Try.func45 (by kernel_rfl) (by kernel_rfl) fun (x : (El TStatus) × Unit × Unit) hx => H (x.1) (x.2.1) hx
theorem nFr.mk  (hs : SpecsOK Try.prog (nFr.specs ))  (H : ∀ (x0 : (El TStatus)) (x1 : Unit), nFr.pre (x0, x1, ()) = true → ∃ m, nFr.go  m x0 x1 = some (nFr.res (x0, x1, ()), [])) : SpecOK Try.prog 45 nFr.sp :=
  nFr.mkR fun x0 x1 hx => (H x0 x1 hx).elim fun _ hm => nFr.ret  hs  x0 x1 hm

/-! ### slices.IndexFunc(()triage/api.Status,triage/api.Status) -/
abbrev jxFr.ps : List AK := [.d false (.sl TStatus), .ff 45 33 []]
def jxFr.pre : ElA jxFr.ps → Bool := fun (x : (List (El TStatus)) × Unit × Unit) => fits (.sl TStatus) (x.1) && (true)
def jxFr.res : ElA jxFr.ps → IV := fun (x : (List (El TStatus)) × Unit × Unit) => (fun l x => vi .i64 (ixOf (noP (freeB)) l)) x.1 x.2.1
def jxFr.sp : ISpec := spOf jxFr.ps jxFr.pre jxFr.res
abbrev jxFr.OK : Prop := SpecOK Try.prog 51 jxFr.sp
noncomputable def jxFr.body : Code := bodyOf Try.f51
noncomputable def jxFr.rs : List ResultVar := Try.f51.results.toList
def jxFr.live : List (Nat × Live) := [(2, ⟨[(0, .sl TStatus), (1, .plain), (7, .plain), (8, .plain)], []⟩)]
noncomputable def jxFr.specs  : List (Nat × (List Bool × ISpec)) := [(45, ([], nFr.sp))]
noncomputable def jxFr.ospecs  : List (Nat × OS) := []
noncomputable def jxFr.cfg  : Cfg := ⟨lkp tab, lkp (jxFr.specs ), lkp jxFr.live, ⟨lkp (jxFr.ospecs ), [], none, false⟩⟩
noncomputable def jxFr.l1  (m : Nat) (x0 : List (El TStatus)) (x1 : Int) (x2 : Int) : R := run (jxFr.cfg ) 19 jxFr.rs m ((todoR 2 jxFr.body []).getD []) ⟨ofList (.c .junk) [(0, (.c (.sl TStatus x0))), (1, (.c (.fn 45 [(.snap [(.fn 33 [])] 0)]))), (7, (.c (.v (.int .i64 x1)))), (8, (.c (.v (.int .i64 x2))))], ofList none [], ofList false []⟩
noncomputable def jxFr.go  (m : Nat) (x0 : (List (El TStatus))) (x1 : Unit) : R := run (jxFr.cfg ) 19 jxFr.rs m [.code jxFr.body] (enter (ivA jxFr.ps (x0, x1, ())))
theorem jxFr.start  (m : Nat) (x0 : (List (El TStatus))) (x1 : Unit) : jxFr.go  (m + 1) x0 x1 =
  jxFr.l1  m x0 ((List.length x0) : Int) (0 : Int) := by kernel_rfl
theorem jxFr.s1  (m : Nat) (x0 : List (El TStatus)) (x1 : Int) (x2 : Int) : jxFr.l1  (m + 1) x0 x1 x2 =
  cond (decide (x2 < x1)) (
   test (decide ((0 : Int) ≤ x2)) (
    test (decide (x2 < ((List.length x0) : Int))) (
     test (nFr.pre (((rdEl TStatus x0 (Int.toNat x2))), (Unit.unit, Unit.unit))) (
      cond (noP freeB ((rdEl TStatus x0 (Int.toNat x2)))) (
       some ((.c (.v (.int .i64 x2))), [])) (
       jxFr.l1  m x0 x1 (IntKind.i64.wrap (x2 + (1 : Int)))))))) (
   some ((.c (.v (.int .i64 (-(1 : Int))))), [])) := by kernel_rfl
theorem jxFr.run_eq  (m : Nat) (x0 : (List (El TStatus))) (x1 : Unit) : run (jxFr.cfg ) Try.f51.ntmps Try.f51.results.toList m [.code (bodyOf Try.f51)] (enter (ivA jxFr.ps (x0, x1, ()))) = jxFr.go  m x0 x1 := by kernel_rfl
theorem jxFr.ret  (hs : SpecsOK Try.prog (jxFr.specs ))  (x0 : (List (El TStatus))) (x1 : Unit) {m : Nat} {r : IV} (h : jxFr.go  m x0 x1 = some (r, [])) : VE.Returns Try.prog 51 (ivA jxFr.ps (x0, x1, ())) r :=
  returns_of_run (cfg := jxFr.cfg ) (cfgOK_of mixed tab_ok hs .nil) rfl Try.func51 (body_some (by kernel_rfl)) (Nat.le_of_ble_eq_true (by kernel_rfl)) ((jxFr.run_eq  m x0 x1).trans h)
abbrev jxFr.Law : Prop := ∀ (x0 : (List (El TStatus))) (x1 : Unit), jxFr.pre (x0, x1, ()) = true → VE.Returns Try.prog 51 (ivA jxFr.ps (x0, x1, ())) (jxFr.res (x0, x1, ()))
theorem jxFr.mkR (H : ∀ (x0 : (List (El TStatus))) (x1 : Unit), jxFr.pre (x0, x1, ()) = true → VE.Returns Try.prog 51 (ivA jxFr.ps (x0, x1, ())) (jxFr.res (x0, x1, ()))) : SpecOK Try.prog 51 jxFr.sp :=
  specOf_ret Try.func51 (by kernel_rfl) (by kernel_rfl) fun (x : (List (El TStatus)) × Unit × Unit) hx => H (x.1) (x.2.1) hx
theorem jxFr.mk  (hs : SpecsOK Try.prog (jxFr.specs ))  (H : ∀ (x0 : (List (El TStatus))) (x1 : Unit), jxFr.pre (x0, x1, ()) = true → ∃ m, jxFr.go  m x0 x1 = some (jxFr.res (x0, x1, ()), [])) : SpecOK Try.prog 51 jxFr.sp :=
  jxFr.mkR fun x0 x1 hx => (H x0 x1 hx).elim fun _ hm => jxFr.ret  hs  x0 x1 hm

/-! ### slices.DeleteFunc(()triage/api.Status,triage/api.Status) -/
abbrev deFr.ps : List AK := [.m 43 TStatus, .ff 45 33 []]
def deFr.pre : ElA deFr.ps → Bool := fun (x : (List (El TStatus)) × Unit × Unit) => fits (.sl TStatus) (x.1) && (true)
def deFr.rv : ElA deFr.ps → List RV := fun (x : (List (El TStatus)) × Unit × Unit) => [.m 43 TStatus ((fun l x => List.filter (freeB) l) x.1 x.2.1)]
def deFr.res : ElA deFr.ps → IV := fun x => oneOrTup (rvIVs 0 (deFr.rv x))
def deFr.back : ElA deFr.ps → List (Nat × Box) := fun (x : (List (El TStatus)) × Unit × Unit) => rvBxs 0 (deFr.rv x)
def deFr.sp : OSpec := spO deFr.ps deFr.pre deFr.res deFr.back
abbrev deFr.OK : Prop := SpecOKO Try.prog 43 deFr.sp
noncomputable def deFr.body : Code := bodyOf Try.f43
noncomputable def deFr.rs : List ResultVar := Try.f43.results.toList
def deFr.live : List (Nat × Live) := [(5, ⟨[(0, .arr 43 TStatus), (1, .plain), (5, .plain), (6, .plain)], []⟩)]
noncomputable def deFr.specs  : List (Nat × (List Bool × ISpec)) := [(45, ([], nFr.sp)), (51, ([], jxFr.sp))]
noncomputable def deFr.ospecs  : List (Nat × OS) := []
noncomputable def deFr.cfg  : Cfg := ⟨lkp tab, lkp (deFr.specs ), lkp deFr.live, ⟨lkp (deFr.ospecs ), oids 0 deFr.ps, some ([.arr 43 TStatus], []), true⟩⟩
noncomputable def deFr.l1  (m : Nat) (x0 : Int) (x1 : Int) (x2 : List (El TStatus)) : R := run (deFr.cfg ) 42 deFr.rs m ((todoR 5 deFr.body []).getD []) ⟨ofList (.c .junk) [(0, (.c (.sref 126))), (1, (.c (.fn 45 [(.snap [(.fn 33 [])] 0)]))), (5, (.c (.v (.int .i64 x0)))), (6, (.c (.v (.int .i64 x1))))], ofList none [(126, some (.arr 43 TStatus x2 false))], ofList false [(126, true)]⟩
noncomputable def deFr.go  (m : Nat) (x0 : (List (El TStatus))) (x1 : Unit) : R := run (deFr.cfg ) 42 deFr.rs m [.code deFr.body] (enterO (ivAO 0 deFr.ps (x0, x1, ())) (bxAO 0 deFr.ps (x0, x1, ())))
theorem deFr.start  (m : Nat) (x0 : (List (El TStatus))) (x1 : Unit) : deFr.go  (m + 1) x0 x1 =
  test (jxFr.pre (x0, (Unit.unit, Unit.unit))) (
   cond ((ixOf (noP freeB) x0) == (-(1 : Int))) (
    some ((.c (.sref 115326)), [(115326, (.arr 43 TStatus x0 false))])) (
    deFr.l1  m (ixOf (noP freeB) x0) (IntKind.i64.wrap ((ixOf (noP freeB) x0) + (1 : Int))) x0)) := by kernel_rfl
theorem deFr.s1  (m : Nat) (x0 : Int) (x1 : Int) (x2 : List (El TStatus)) : deFr.l1  (m + 1) x0 x1 x2 =
  cond (decide (x1 < ((List.length x2) : Int))) (
   test (decide ((0 : Int) ≤ x1)) (
    test (decide (x1 < ((List.length x2) : Int))) (
     test (nFr.pre (((rdEl TStatus x2 (Int.toNat x1))), (Unit.unit, Unit.unit))) (
      cond (Bool.not (noP freeB ((rdEl TStatus x2 (Int.toNat x1))))) (
       test (decide ((0 : Int) ≤ x0)) (
        test (decide (x0 < ((List.length x2) : Int))) (
         deFr.l1  m (IntKind.i64.wrap (x0 + (1 : Int))) (IntKind.i64.wrap (x1 + (1 : Int))) (List.set x2 (Int.toNat x0) ((rdEl TStatus x2 (Int.toNat x1))))))) (
       deFr.l1  m x0 (IntKind.i64.wrap (x1 + (1 : Int))) x2))))) (
   test (decide ((0 : Int) ≤ x0)) (
    test (decide (x0 ≤ ((List.length x2) : Int))) (
     test (decide (((0 + (Int.toNat x0)) + (List.length (List.replicate ((List.length x2) - (Int.toNat x0)) (((0 : Int), ((⟨#[]⟩ : ByteArray), ((0 : Int), ((⟨#[]⟩ : ByteArray), ((0 : Int), ([] : List (El TPair))))))), ((false, ((0 : Int), ((0 : Int), (0 : Int)))), ((0 : Int), (((0 : Int), (0 : Int)), ((false, ((0 : Int), ((0 : Int), (0 : Int)))), (false, ((0 : Int), ((0 : Int), (0 : Int)))))))))))) ≤ (List.length x2))) (
      test (decide ((0 : Int) ≤ x0)) (
       test (decide (x0 ≤ ((List.length (over x2 (0 + (Int.toNat x0)) (List.replicate ((List.length x2) - (Int.toNat x0)) (((0 : Int), ((⟨#[]⟩ : ByteArray), ((0 : Int), ((⟨#[]⟩ : ByteArray), ((0 : Int), ([] : List (El TPair))))))), ((false, ((0 : Int), ((0 : Int), (0 : Int)))), ((0 : Int), (((0 : Int), (0 : Int)), ((false, ((0 : Int), ((0 : Int), (0 : Int)))), (false, ((0 : Int), ((0 : Int), (0 : Int)))))))))))) : Int))) (
        test (decide (((Int.toNat x0) - 0) ≤ (List.length (over x2 (0 + (Int.toNat x0)) (List.replicate ((List.length x2) - (Int.toNat x0)) (((0 : Int), ((⟨#[]⟩ : ByteArray), ((0 : Int), ((⟨#[]⟩ : ByteArray), ((0 : Int), ([] : List (El TPair))))))), ((false, ((0 : Int), ((0 : Int), (0 : Int)))), ((0 : Int), (((0 : Int), (0 : Int)), ((false, ((0 : Int), ((0 : Int), (0 : Int)))), (false, ((0 : Int), ((0 : Int), (0 : Int)))))))))))))) (
         some ((.c (.sref 115326)), [(115326, (.arr 43 TStatus (List.take ((Int.toNat x0) - 0) (over x2 (0 + (Int.toNat x0)) (List.replicate ((List.length x2) - (Int.toNat x0)) (((0 : Int), ((⟨#[]⟩ : ByteArray), ((0 : Int), ((⟨#[]⟩ : ByteArray), ((0 : Int), ([] : List (El TPair))))))), ((false, ((0 : Int), ((0 : Int), (0 : Int)))), ((0 : Int), (((0 : Int), (0 : Int)), ((false, ((0 : Int), ((0 : Int), (0 : Int)))), (false, ((0 : Int), ((0 : Int), (0 : Int)))))))))))) false))])))))))) := by kernel_rfl
theorem deFr.run_eq  (m : Nat) (x0 : (List (El TStatus))) (x1 : Unit) : run (deFr.cfg ) Try.f43.ntmps Try.f43.results.toList m [.code (bodyOf Try.f43)] (enterO (ivAO 0 deFr.ps (x0, x1, ())) (bxAO 0 deFr.ps (x0, x1, ()))) = deFr.go  m x0 x1 := by kernel_rfl
theorem deFr.ret  (hs : SpecsOK Try.prog (deFr.specs ))  (x0 : (List (El TStatus))) (x1 : Unit) {m : Nat} {r : IV} {b : List (Nat × Box)} (h : deFr.go  m x0 x1 = some (r, b)) : VE.ReturnsO Try.prog 43 (ivAO 0 deFr.ps (x0, x1, ())) (bxAO 0 deFr.ps (x0, x1, ())) r b :=
  returnsO_of_run (cfg := deFr.cfg ) (cfgOK_of mixed tab_ok hs .nil) rfl Try.func43 (body_some (by kernel_rfl)) (Nat.le_of_ble_eq_true (by kernel_rfl)) (fun _ _ _ h => oids_mem h) ((deFr.run_eq  m x0 x1).trans h)
abbrev deFr.Law : Prop := ∀ (x0 : (List (El TStatus))) (x1 : Unit), deFr.pre (x0, x1, ()) = true → VE.ReturnsO Try.prog 43 (ivAO 0 deFr.ps (x0, x1, ())) (bxAO 0 deFr.ps (x0, x1, ())) (deFr.res (x0, x1, ())) (deFr.back (x0, x1, ()))
theorem deFr.mkR (H : ∀ (x0 : (List (El TStatus))) (x1 : Unit), deFr.pre (x0, x1, ()) = true → VE.ReturnsO Try.prog 43 (ivAO 0 deFr.ps (x0, x1, ())) (bxAO 0 deFr.ps (x0, x1, ())) (deFr.res (x0, x1, ())) (deFr.back (x0, x1, ()))) : SpecOKO Try.prog 43 deFr.sp :=
  specO_ret Try.func43 (by kernel_rfl) (by kernel_rfl) fun (x : (List (El TStatus)) × Unit × Unit) hx => H (x.1) (x.2.1) hx
theorem deFr.mk  (hs : SpecsOK Try.prog (deFr.specs ))  (H : ∀ (x0 : (List (El TStatus))) (x1 : Unit), deFr.pre (x0, x1, ()) = true → ∃ m, deFr.go  m x0 x1 = some (deFr.res (x0, x1, ()), deFr.back (x0, x1, ()))) : SpecOKO Try.prog 43 deFr.sp :=
  deFr.mkR fun x0 x1 hx => (H x0 x1 hx).elim fun _ hm => deFr.ret  hs  x0 x1 hm

/-! ### triage/fit.those -/
abbrev thFr.ps : List AK := [.d false (.sl TStatus), .f 33 []]
def thFr.pre : ElA thFr.ps → Bool := fun (x : (List (El TStatus)) × Unit × Unit) => fits (.sl TStatus) (x.1) && (true)
def thFr.res : ElA thFr.ps → IV := fun (x : (List (El TStatus)) × Unit × Unit) => (fun l x => .c (.sl TStatus (List.filter (freeB) l))) x.1 x.2.1
def thFr.sp : ISpec := spOf thFr.ps thFr.pre thFr.res
abbrev thFr.OK : Prop := SpecOK Try.prog 28 thFr.sp
noncomputable def thFr.body : Code := bodyOf Try.f28
noncomputable def thFr.rs : List ResultVar := Try.f28.results.toList
def thFr.live : List (Nat × Live) := []
noncomputable def thFr.specs  : List (Nat × (List Bool × ISpec)) := []
noncomputable def thFr.ospecs  : List (Nat × OS) := [(44, ⟨[], [], copySO.sp⟩), (43, ⟨[some (.arr 43 TStatus)], [], deFr.sp⟩)]
noncomputable def thFr.cfg  : Cfg := ⟨lkp tab, lkp (thFr.specs ), lkp thFr.live, ⟨lkp (thFr.ospecs ), [], none, false⟩⟩
noncomputable def thFr.go  (m : Nat) (x0 : (List (El TStatus))) (x1 : Unit) : R := run (thFr.cfg ) 9 thFr.rs m [.code thFr.body] (enter (ivA thFr.ps (x0, x1, ())))
theorem thFr.start  (m : Nat) (x0 : (List (El TStatus))) (x1 : Unit) : thFr.go  (m + 1) x0 x1 =
  test (copySO.pre (x0, Unit.unit)) (
   test (deFr.pre (x0, (Unit.unit, Unit.unit))) (
    some ((.c (.sl TStatus (List.filter freeB x0))), []))) := by kernel_rfl
theorem thFr.run_eq  (m : Nat) (x0 : (List (El TStatus))) (x1 : Unit) : run (thFr.cfg ) Try.f28.ntmps Try.f28.results.toList m [.code (bodyOf Try.f28)] (enter (ivA thFr.ps (x0, x1, ()))) = thFr.go  m x0 x1 := by kernel_rfl
theorem thFr.ret  (hs : SpecsOK Try.prog (thFr.specs )) (ho : OSpecsOK Try.prog (thFr.ospecs )) (x0 : (List (El TStatus))) (x1 : Unit) {m : Nat} {r : IV} (h : thFr.go  m x0 x1 = some (r, [])) : VE.Returns Try.prog 28 (ivA thFr.ps (x0, x1, ())) r :=
  returns_of_run (cfg := thFr.cfg ) (cfgOK_of mixed tab_ok hs ho) rfl Try.func28 (body_some (by kernel_rfl)) (Nat.le_of_ble_eq_true (by kernel_rfl)) ((thFr.run_eq  m x0 x1).trans h)
abbrev thFr.Law : Prop := ∀ (x0 : (List (El TStatus))) (x1 : Unit), thFr.pre (x0, x1, ()) = true → VE.Returns Try.prog 28 (ivA thFr.ps (x0, x1, ())) (thFr.res (x0, x1, ()))
theorem thFr.mkR (H : ∀ (x0 : (List (El TStatus))) (x1 : Unit), thFr.pre (x0, x1, ()) = true → VE.Returns Try.prog 28 (ivA thFr.ps (x0, x1, ())) (thFr.res (x0, x1, ()))) : SpecOK Try.prog 28 thFr.sp :=
  specOf_ret Try.func28 (by kernel_rfl) (by kernel_rfl) fun (x : (List (El TStatus)) × Unit × Unit) hx => H (x.1) (x.2.1) hx
theorem thFr.mk  (hs : SpecsOK Try.prog (thFr.specs )) (ho : OSpecsOK Try.prog (thFr.ospecs )) (H : ∀ (x0 : (List (El TStatus))) (x1 : Unit), thFr.pre (x0, x1, ()) = true → ∃ m, thFr.go  m x0 x1 = some (thFr.res (x0, x1, ()), [])) : SpecOK Try.prog 28 thFr.sp :=
  thFr.mkR fun x0 x1 hx => (H x0 x1 hx).elim fun _ hm => thFr.ret  hs ho x0 x1 hm

/-! ### triage/fit.those$1 -/
abbrev nWo.ps : List AK := [.d true TStatus, .pf 34 [(true, (.sl (.int .i64)))]]
def nWo.pre : ElA nWo.ps → Bool := fun (x : (El TStatus) × ((List Int) × Unit) × Unit) => fits TStatus (x.1) && (fits (.sl (.int .i64)) (x.2.1.1) && (true))
def nWo.res : ElA nWo.ps → IV := fun (x : (El TStatus) × ((List Int) × Unit) × Unit) => (fun s x => vb (noP (pWo x.1) s)) x.1 x.2.1
def nWo.sp : ISpec := spOf nWo.ps nWo.pre nWo.res
abbrev nWo.OK : Prop := SpecOK Try.prog 45 nWo.sp
noncomputable def nWo.body : Code := bodyOf Try.f45
noncomputable def nWo.rs : List ResultVar := Try.f45.results.toList
def nWo.live : List (Nat × Live) := []
noncomputable def nWo.specs  : List (Nat × (List Bool × ISpec)) := [(34, ([], woF.sp))]
noncomputable def nWo.ospecs  : List (Nat × OS) := []
noncomputable def nWo.cfg  : Cfg := ⟨lkp tab, lkp (nWo.specs ), lkp nWo.live, ⟨lkp (nWo.ospecs ), [], none, false⟩⟩
noncomputable def nWo.go  (m : Nat) (x0 : (El TStatus)) (x1 : ((List Int) × Unit)) : R := run (nWo.cfg ) 8 nWo.rs m [.code nWo.body] (enter (ivA nWo.ps (x0, x1, ())))
theorem nWo.start  (m : Nat) (x0 : (El TStatus)) (x1 : ((List Int) × Unit)) : nWo.go  (m + 1) x0 x1 =
  test (woF.pre (x0, (x1.1, Unit.unit))) (
   some ((.c (.v (.bool (Bool.not (pWo x1.1 x0))))), [])) := by kernel_rfl
theorem nWo.run_eq  (m : Nat) (x0 : (El TStatus)) (x1 : ((List Int) × Unit)) : run (nWo.cfg ) Try.f45.ntmps Try.f45.results.toList m [.code (bodyOf Try.f45)] (enter (ivA nWo.ps (x0, x1, ()))) = nWo.go  m x0 x1 := by kernel_rfl
theorem nWo.ret  (hs : SpecsOK Try.prog (nWo.specs ))  (x0 : (El TStatus)) (x1 : ((List Int) × Unit)) {m : Nat} {r : IV} (h : nWo.go  m x0 x1 = some (r, [])) : VE.Returns Try.prog 45 (ivA nWo.ps (x0, x1, ())) r :=
  returns_of_run (cfg := nWo.cfg ) (cfgOK_of mixed tab_ok hs .nil) rfl Try.func45 (body_some (by kernel_rfl)) (Nat.le_of_ble_eq_true (by kernel_rfl)) ((nWo.run_eq  m x0 x1).trans h)
abbrev nWo.Law : Prop := ∀ (x0 : (El TStatus)) (x1 : ((List Int) × Unit)), nWo.pre (x0, x1, ()) = true → VE.Returns Try.prog 45 (ivA nWo.ps (x0, x1, ())) (nWo.res (x0, x1, ()))
theorem nWo.mkR (H : ∀ (x0 : (El TStatus)) (x1 : ((List Int) × Unit)), nWo.pre (x0, x1, ()) = true → VE.Returns Try.prog 45 (ivA nWo.ps (x0, x1, ())) (nWo.res (x0, x1, ()))) : SpecOK Try.prog 45 nWo.sp :=
  specOf_ret Try.func45 (by kernel_rfl) (by kernel_rfl) fun (x : (El TStatus) × ((List Int) × Unit) × Unit) hx => H (x.1) (x.2.1) hx
theorem nWo.mk  (hs : SpecsOK Try.prog (nWo.specs ))  (H : ∀ (x0 : (El TStatus)) (x1 : ((List Int) × Unit)), nWo.pre (x0, x1, ()) = true → ∃ m, nWo.go  m x0 x1 = some (nWo.res (x0, x1, ()), [])) : SpecOK Try.prog 45 nWo.sp :=
  nWo.mkR fun x0 x1 hx => (H x0 x1 hx).elim fun _ hm => nWo.ret  hs  x0 x1 hm

/-! ### slices.IndexFunc(()triage/api.Status,triage/api.Status) -/
abbrev jxWo.ps : List AK := [.d false (.sl TStatus), .ff 45 34 [(true, (.sl (.int .i64)))]]
def jxWo.pre : ElA jxWo.ps → Bool := fun (x : (List (El TStatus)) × ((List Int) × Unit) × Unit) => fits (.sl TStatus) (x.1) && (fits (.sl (.int .i64)) (x.2.1.1) && (true))
def jxWo.res : ElA jxWo.ps → IV := fun (x : (List (El TStatus)) × ((List Int) × Unit) × Unit) => (fun l x => vi .i64 (ixOf (noP (pWo x.1)) l)) x.1 x.2.1
def jxWo.sp : ISpec := spOf jxWo.ps jxWo.pre jxWo.res
abbrev jxWo.OK : Prop := SpecOK Try.prog 51 jxWo.sp
noncomputable def jxWo.body : Code := bodyOf Try.f51
noncomputable def jxWo.rs : List ResultVar := Try.f51.results.toList
def jxWo.live : List (Nat × Live) := [(2, ⟨[(0, .sl TStatus), (1, .plain), (7, .plain), (8, .plain)], []⟩)]
noncomputable def jxWo.specs  : List (Nat × (List Bool × ISpec)) := [(45, ([], nWo.sp))]
noncomputable def jxWo.ospecs  : List (Nat × OS) := []
noncomputable def jxWo.cfg  : Cfg := ⟨lkp tab, lkp (jxWo.specs ), lkp jxWo.live, ⟨lkp (jxWo.ospecs ), [], none, false⟩⟩
noncomputable def jxWo.l1  (m : Nat) (x0 : List (El TStatus)) (x1 : List Int) (x2 : Int) (x3 : Int) : R := run (jxWo.cfg ) 19 jxWo.rs m ((todoR 2 jxWo.body []).getD []) ⟨ofList (.c .junk) [(0, (.c (.sl TStatus x0))), (1, (.c (.fn 45 [(.snap [(.fn 34 [(.snap [(.sl (.int .i64) x1)] 0)])] 0)]))), (7, (.c (.v (.int .i64 x2)))), (8, (.c (.v (.int .i64 x3))))], ofList none [], ofList false []⟩
noncomputable def jxWo.go  (m : Nat) (x0 : (List (El TStatus))) (x1 : ((List Int) × Unit)) : R := run (jxWo.cfg ) 19 jxWo.rs m [.code jxWo.body] (enter (ivA jxWo.ps (x0, x1, ())))
theorem jxWo.start  (m : Nat) (x0 : (List (El TStatus))) (x1 : ((List Int) × Unit)) : jxWo.go  (m + 1) x0 x1 =
  jxWo.l1  m x0 x1.1 ((List.length x0) : Int) (0 : Int) := by kernel_rfl
theorem jxWo.s1  (m : Nat) (x0 : List (El TStatus)) (x1 : List Int) (x2 : Int) (x3 : Int) : jxWo.l1  (m + 1) x0 x1 x2 x3 =
  cond (decide (x3 < x2)) (
   test (decide ((0 : Int) ≤ x3)) (
    test (decide (x3 < ((List.length x0) : Int))) (
     test (nWo.pre (((rdEl TStatus x0 (Int.toNat x3))), ((x1, Unit.unit), Unit.unit))) (
      cond (noP (pWo x1) ((rdEl TStatus x0 (Int.toNat x3)))) (
       some ((.c (.v (.int .i64 x3))), [])) (
       jxWo.l1  m x0 x1 x2 (IntKind.i64.wrap (x3 + (1 : Int)))))))) (
   some ((.c (.v (.int .i64 (-(1 : Int))))), [])) := by kernel_rfl
theorem jxWo.run_eq  (m : Nat) (x0 : (List (El TStatus))) (x1 : ((List Int) × Unit)) : run (jxWo.cfg ) Try.f51.ntmps Try.f51.results.toList m [.code (bodyOf Try.f51)] (enter (ivA jxWo.ps (x0, x1, ()))) = jxWo.go  m x0 x1 := by kernel_rfl
theorem jxWo.ret  (hs : SpecsOK Try.prog (jxWo.specs ))  (x0 : (List (El TStatus))) (x1 : ((List Int) × Unit)) {m : Nat} {r : IV} (h : jxWo.go  m x0 x1 = some (r, [])) : VE.Returns Try.prog 51 (ivA jxWo.ps (x0, x1, ())) r :=
  returns_of_run (cfg := jxWo.cfg ) (cfgOK_of mixed tab_ok hs .nil) rfl Try.func51 (body_some (by kernel_rfl)) (Nat.le_of_ble_eq_true (by kernel_rfl)) ((jxWo.run_eq  m x0 x1).trans h)
abbrev jxWo.Law : Prop := ∀ (x0 : (List (El TStatus))) (x1 : ((List Int) × Unit)), jxWo.pre (x0, x1, ()) = true → VE.Returns Try.prog 51 (ivA jxWo.ps (x0, x1, ())) (jxWo.res (x0, x1, ()))
theorem jxWo.mkR (H : ∀ (x0 : (List (El TStatus))) (x1 : ((List Int) × Unit)), jxWo.pre (x0, x1, ()) = true → VE.Returns Try.prog 51 (ivA jxWo.ps (x0, x1, ())) (jxWo.res (x0, x1, ()))) : SpecOK Try.prog 51 jxWo.sp :=
  specOf_ret Try.func51 (by kernel_rfl) (by kernel_rfl) fun (x : (List (El TStatus)) × ((List Int) × Unit) × Unit) hx => H (x.1) (x.2.1) hx
theorem jxWo.mk  (hs : SpecsOK Try.prog (jxWo.specs ))  (H : ∀ (x0 : (List (El TStatus))) (x1 : ((List Int) × Unit)), jxWo.pre (x0, x1, ()) = true → ∃ m, jxWo.go  m x0 x1 = some (jxWo.res (x0, x1, ()), [])) : SpecOK Try.prog 51 jxWo.sp :=
  jxWo.mkR fun x0 x1 hx => (H x0 x1 hx).elim fun _ hm => jxWo.ret  hs  x0 x1 hm

/-! ### slices.DeleteFunc(()triage/api.Status,triage/api.Status) -/
abbrev deWo.ps : List AK := [.m 43 TStatus, .ff 45 34 [(true, (.sl (.int .i64)))]]
def deWo.pre : ElA deWo.ps → Bool := fun (x : (List (El TStatus)) × ((List Int) × Unit) × Unit) => fits (.sl TStatus) (x.1) && (fits (.sl (.int .i64)) (x.2.1.1) && (true))
def deWo.rv : ElA deWo.ps → List RV := fun (x : (List (El TStatus)) × ((List Int) × Unit) × Unit) => [.m 43 TStatus ((fun l x => List.filter (pWo x.1) l) x.1 x.2.1)]
def deWo.res : ElA deWo.ps → IV := fun x => oneOrTup (rvIVs 0 (deWo.rv x))
def deWo.back : ElA deWo.ps → List (Nat × Box) := fun (x : (List (El TStatus)) × ((List Int) × Unit) × Unit) => rvBxs 0 (deWo.rv x)
def deWo.sp : OSpec := spO deWo.ps deWo.pre deWo.res deWo.back
abbrev deWo.OK : Prop := SpecOKO Try.prog 43 deWo.sp
noncomputable def deWo.body : Code := bodyOf Try.f43
noncomputable def deWo.rs : List ResultVar := Try.f43.results.toList
def deWo.live : List (Nat × Live) := [(5, ⟨[(0, .arr 43 TStatus), (1, .plain), (5, .plain), (6, .plain)], []⟩)]
noncomputable def deWo.specs  : List (Nat × (List Bool × ISpec)) := [(45, ([], nWo.sp)), (51, ([], jxWo.sp))]
noncomputable def deWo.ospecs  : List (Nat × OS) := []
noncomputable def deWo.cfg  : Cfg := ⟨lkp tab, lkp (deWo.specs ), lkp deWo.live, ⟨lkp (deWo.ospecs ), oids 0 deWo.ps, some ([.arr 43 TStatus], []), true⟩⟩
noncomputable def deWo.l1  (m : Nat) (x0 : List Int) (x1 : Int) (x2 : Int) (x3 : List (El TStatus)) : R := run (deWo.cfg ) 42 deWo.rs m ((todoR 5 deWo.body []).getD []) ⟨ofList (.c .junk) [(0, (.c (.sref 126))), (1, (.c (.fn 45 [(.snap [(.fn 34 [(.snap [(.sl (.int .i64) x0)] 0)])] 0)]))), (5, (.c (.v (.int .i64 x1)))), (6, (.c (.v (.int .i64 x2))))], ofList none [(126, some (.arr 43 TStatus x3 false))], ofList false [(126, true)]⟩
noncomputable def deWo.go  (m : Nat) (x0 : (List (El TStatus))) (x1 : ((List Int) × Unit)) : R := run (deWo.cfg ) 42 deWo.rs m [.code deWo.body] (enterO (ivAO 0 deWo.ps (x0, x1, ())) (bxAO 0 deWo.ps (x0, x1, ())))
theorem deWo.start  (m : Nat) (x0 : (List (El TStatus))) (x1 : ((List Int) × Unit)) : deWo.go  (m + 1) x0 x1 =
  test (jxWo.pre (x0, ((x1.1, Unit.unit), Unit.unit))) (
   cond ((ixOf (noP (pWo x1.1)) x0) == (-(1 : Int))) (
    some ((.c (.sref 115326)), [(115326, (.arr 43 TStatus x0 false))])) (
    deWo.l1  m x1.1 (ixOf (noP (pWo x1.1)) x0) (IntKind.i64.wrap ((ixOf (noP (pWo x1.1)) x0) + (1 : Int))) x0)) := by kernel_rfl
theorem deWo.s1  (m : Nat) (x0 : List Int) (x1 : Int) (x2 : Int) (x3 : List (El TStatus)) : deWo.l1  (m + 1) x0 x1 x2 x3 =
  cond (decide (x2 < ((List.length x3) : Int))) (
   test (decide ((0 : Int) ≤ x2)) (
    test (decide (x2 < ((List.length x3) : Int))) (
     test (nWo.pre (((rdEl TStatus x3 (Int.toNat x2))), ((x0, Unit.unit), Unit.unit))) (
      cond (Bool.not (noP (pWo x0) ((rdEl TStatus x3 (Int.toNat x2))))) (
       test (decide ((0 : Int) ≤ x1)) (
        test (decide (x1 < ((List.length x3) : Int))) (
         deWo.l1  m x0 (IntKind.i64.wrap (x1 + (1 : Int))) (IntKind.i64.wrap (x2 + (1 : Int))) (List.set x3 (Int.toNat x1) ((rdEl TStatus x3 (Int.toNat x2))))))) (
       deWo.l1  m x0 x1 (IntKind.i64.wrap (x2 + (1 : Int))) x3))))) (
   test (decide ((0 : Int) ≤ x1)) (
    test (decide (x1 ≤ ((List.length x3) : Int))) (
     test (decide (((0 + (Int.toNat x1)) + (List.length (List.replicate ((List.length x3) - (Int.toNat x1)) (((0 : Int), ((⟨#[]⟩ : ByteArray), ((0 : Int), ((⟨#[]⟩ : ByteArray), ((0 : Int), ([] : List (El TPair))))))), ((false, ((0 : Int), ((0 : Int), (0 : Int)))), ((0 : Int), (((0 : Int), (0 : Int)), ((false, ((0 : Int), ((0 : Int), (0 : Int)))), (false, ((0 : Int), ((0 : Int), (0 : Int)))))))))))) ≤ (List.length x3))) (
      test (decide ((0 : Int) ≤ x1)) (
       test (decide (x1 ≤ ((List.length (over x3 (0 + (Int.toNat x1)) (List.replicate ((List.length x3) - (Int.toNat x1)) (((0 : Int), ((⟨#[]⟩ : ByteArray), ((0 : Int), ((⟨#[]⟩ : ByteArray), ((0 : Int), ([] : List (El TPair))))))), ((false, ((0 : Int), ((0 : Int), (0 : Int)))), ((0 : Int), (((0 : Int), (0 : Int)), ((false, ((0 : Int), ((0 : Int), (0 : Int)))), (false, ((0 : Int), ((0 : Int), (0 : Int)))))))))))) : Int))) (
        test (decide (((Int.toNat x1) - 0) ≤ (List.length (over x3 (0 + (Int.toNat x1)) (List.replicate ((List.length x3) - (Int.toNat x1)) (((0 : Int), ((⟨#[]⟩ : ByteArray), ((0 : Int), ((⟨#[]⟩ : ByteArray), ((0 : Int), ([] : List (El TPair))))))), ((false, ((0 : Int), ((0 : Int), (0 : Int)))), ((0 : Int), (((0 : Int), (0 : Int)), ((false, ((0 : Int), ((0 : Int), (0 : Int)))), (false, ((0 : Int), ((0 : Int), (0 : Int)))))))))))))) (
         some ((.c (.sref 115326)), [(115326, (.arr 43 TStatus (List.take ((Int.toNat x1) - 0) (over x3 (0 + (Int.toNat x1)) (List.replicate ((List.length x3) - (Int.toNat x1)) (((0 : Int), ((⟨#[]⟩ : ByteArray), ((0 : Int), ((⟨#[]⟩ : ByteArray), ((0 : Int), ([] : List (El TPair))))))), ((false, ((0 : Int), ((0 : Int), (0 : Int)))), ((0 : Int), (((0 : Int), (0 : Int)), ((false, ((0 : Int), ((0 : Int), (0 : Int)))), (false, ((0 : Int), ((0 : Int), (0 : Int)))))))))))) false))])))))))) := by kernel_rfl
theorem deWo.run_eq  (m : Nat) (x0 : (List (El TStatus))) (x1 : ((List Int) × Unit)) : run (deWo.cfg ) Try.f43.ntmps Try.f43.results.toList m [.code (bodyOf Try.f43)] (enterO (ivAO 0 deWo.ps (x0, x1, ())) (bxAO 0 deWo.ps (x0, x1, ()))) = deWo.go  m x0 x1 := by kernel_rfl
theorem deWo.ret  (hs : SpecsOK Try.prog (deWo.specs ))  (x0 : (List (El TStatus))) (x1 : ((List Int) × Unit)) {m : Nat} {r : IV} {b : List (Nat × Box)} (h : deWo.go  m x0 x1 = some (r, b)) : VE.ReturnsO Try.prog 43 (ivAO 0 deWo.ps (x0, x1, ())) (bxAO 0 deWo.ps (x0, x1, ())) r b :=
  returnsO_of_run (cfg := deWo.cfg ) (cfgOK_of mixed tab_ok hs .nil) rfl Try.func43 (body_some (by kernel_rfl)) (Nat.le_of_ble_eq_true (by kernel_rfl)) (fun _ _ _ h => oids_mem h) ((deWo.run_eq  m x0 x1).trans h)
abbrev deWo.Law : Prop := ∀ (x0 : (List (El TStatus))) (x1 : ((List Int) × Unit)), deWo.pre (x0, x1, ()) = true → VE.ReturnsO Try.prog 43 (ivAO 0 deWo.ps (x0, x1, ())) (bxAO 0 deWo.ps (x0, x1, ())) (deWo.res (x0, x1, ())) (deWo.back (x0, x1, ()))
theorem deWo.mkR (H : ∀ (x0 : (List (El TStatus))) (x1 : ((List Int) × Unit)), deWo.pre (x0, x1, ()) = true → VE.ReturnsO Try.prog 43 (ivAO 0 deWo.ps (x0, x1, ())) (bxAO 0 deWo.ps (x0, x1, ())) (deWo.res (x0, x1, ())) (deWo.back (x0, x1, ()))) : SpecOKO Try.prog 43 deWo.sp :=
  specO_ret Try.func43 (by kernel_rfl) (by kernel_rfl) fun (x : (List (El TStatus)) × ((List Int) × Unit) × Unit) hx => H (x.1) (x.2.1) hx
theorem deWo.mk  (hs : SpecsOK Try.prog (deWo.specs ))  (H : ∀ (x0 : (List (El TStatus))) (x1 : ((List Int) × Unit)), deWo.pre (x0, x1, ()) = true → ∃ m, deWo.go  m x0 x1 = some (deWo.res (x0, x1, ()), deWo.back (x0, x1, ()))) : SpecOKO Try.prog 43 deWo.sp :=
  deWo.mkR fun x0 x1 hx => (H x0 x1 hx).elim fun _ hm => deWo.ret  hs  x0 x1 hm

/-! ### triage/fit.those -/
abbrev thWo.ps : List AK := [.d false (.sl TStatus), .f 34 [(true, (.sl (.int .i64)))]]
def thWo.pre : ElA thWo.ps → Bool := fun (x : (List (El TStatus)) × ((List Int) × Unit) × Unit) => fits (.sl TStatus) (x.1) && (fits (.sl (.int .i64)) (x.2.1.1) && (true))
def thWo.res : ElA thWo.ps → IV := fun (x : (List (El TStatus)) × ((List Int) × Unit) × Unit) => (fun l x => .c (.sl TStatus (List.filter (pWo x.1) l))) x.1 x.2.1
def thWo.sp : ISpec := spOf thWo.ps thWo.pre thWo.res
abbrev thWo.OK : Prop := SpecOK Try.prog 28 thWo.sp
noncomputable def thWo.body : Code := bodyOf Try.f28
noncomputable def thWo.rs : List ResultVar := Try.f28.results.toList
def thWo.live : List (Nat × Live) := []
noncomputable def thWo.specs  : List (Nat × (List Bool × ISpec)) := []
noncomputable def thWo.ospecs  : List (Nat × OS) := [(44, ⟨[], [], copySO.sp⟩), (43, ⟨[some (.arr 43 TStatus)], [], deWo.sp⟩)]
noncomputable def thWo.cfg  : Cfg := ⟨lkp tab, lkp (thWo.specs ), lkp thWo.live, ⟨lkp (thWo.ospecs ), [], none, false⟩⟩
noncomputable def thWo.go  (m : Nat) (x0 : (List (El TStatus))) (x1 : ((List Int) × Unit)) : R := run (thWo.cfg ) 9 thWo.rs m [.code thWo.body] (enter (ivA thWo.ps (x0, x1, ())))
theorem thWo.start  (m : Nat) (x0 : (List (El TStatus))) (x1 : ((List Int) × Unit)) : thWo.go  (m + 1) x0 x1 =
  test (copySO.pre (x0, Unit.unit)) (
   test (deWo.pre (x0, ((x1.1, Unit.unit), Unit.unit))) (
    some ((.c (.sl TStatus (List.filter (pWo x1.1) x0))), []))) := by kernel_rfl
theorem thWo.run_eq  (m : Nat) (x0 : (List (El TStatus))) (x1 : ((List Int) × Unit)) : run (thWo.cfg ) Try.f28.ntmps Try.f28.results.toList m [.code (bodyOf Try.f28)] (enter (ivA thWo.ps (x0, x1, ()))) = thWo.go  m x0 x1 := by kernel_rfl
theorem thWo.ret  (hs : SpecsOK Try.prog (thWo.specs )) (ho : OSpecsOK Try.prog (thWo.ospecs )) (x0 : (List (El TStatus))) (x1 : ((List Int) × Unit)) {m : Nat} {r : IV} (h : thWo.go  m x0 x1 = some (r, [])) : VE.Returns Try.prog 28 (ivA thWo.ps (x0, x1, ())) r :=
  returns_of_run (cfg := thWo.cfg ) (cfgOK_of mixed tab_ok hs ho) rfl Try.func28 (body_some (by kernel_rfl)) (Nat.le_of_ble_eq_true (by kernel_rfl)) ((thWo.run_eq  m x0 x1).trans h)
abbrev thWo.Law : Prop := ∀ (x0 : (List (El TStatus))) (x1 : ((List Int) × Unit)), thWo.pre (x0, x1, ()) = true → VE.Returns Try.prog 28 (ivA thWo.ps (x0, x1, ())) (thWo.res (x0, x1, ()))
theorem thWo.mkR (H : ∀ (x0 : (List (El TStatus))) (x1 : ((List Int) × Unit)), thWo.pre (x0, x1, ()) = true → VE.Returns Try.prog 28 (ivA thWo.ps (x0, x1, ())) (thWo.res (x0, x1, ()))) : SpecOK Try.prog 28 thWo.sp :=
  specOf_ret Try.func28 (by kernel_rfl) (by kernel_rfl) fun (x : (List (El TStatus)) × ((List Int) × Unit) × Unit) hx => H (x.1) (x.2.1) hx
theorem thWo.mk  (hs : SpecsOK Try.prog (thWo.specs )) (ho : OSpecsOK Try.prog (thWo.ospecs )) (H : ∀ (x0 : (List (El TStatus))) (x1 : ((List Int) × Unit)), thWo.pre (x0, x1, ()) = true → ∃ m, thWo.go  m x0 x1 = some (thWo.res (x0, x1, ()), [])) : SpecOK Try.prog 28 thWo.sp :=
  thWo.mkR fun x0 x1 hx => (H x0 x1 hx).elim fun _ hm => thWo.ret  hs ho x0 x1 hm

/-! ### triage/fit.those$1 -/
abbrev nBe.ps : List AK := [.d true TStatus, .pf 36 [(true, (.int .i64))]]
def nBe.pre : ElA nBe.ps → Bool := fun (x : (El TStatus) × (Int × Unit) × Unit) => fits TStatus (x.1) && (fits (.int .i64) (x.2.1.1) && (true))
def nBe.res : ElA nBe.ps → IV := fun (x : (El TStatus) × (Int × Unit) × Unit) => (fun s x => vb (noP (pBe x.1) s)) x.1 x.2.1
def nBe.sp : ISpec := spOf nBe.ps nBe.pre nBe.res
abbrev nBe.OK : Prop := SpecOK Try.prog 45 nBe.sp
noncomputable def nBe.body : Code := bodyOf Try.f45
noncomputable def nBe.rs : List ResultVar := Try.f45.results.toList
def nBe.live : List (Nat × Live) := []
noncomputable def nBe.specs  : List (Nat × (List Bool × ISpec)) := [(36, ([], beF.sp))]
noncomputable def nBe.ospecs  : List (Nat × OS) := []
noncomputable def nBe.cfg  : Cfg := ⟨lkp tab, lkp (nBe.specs ), lkp nBe.live, ⟨lkp (nBe.ospecs ), [], none, false⟩⟩
noncomputable def nBe.go  (m : Nat) (x0 : (El TStatus)) (x1 : (Int × Unit)) : R := run (nBe.cfg ) 8 nBe.rs m [.code nBe.body] (enter (ivA nBe.ps (x0, x1, ())))
theorem nBe.start  (m : Nat) (x0 : (El TStatus)) (x1 : (Int × Unit)) : nBe.go  (m + 1) x0 x1 =
  test (beF.pre (x0, (x1.1, Unit.unit))) (
   some ((.c (.v (.bool (Bool.not (pBe x1.1 x0))))), [])) := by kernel_rfl
theorem nBe.run_eq  (m : Nat) (x0 : (El TStatus)) (x1 : (Int × Unit)) : run (nBe.cfg ) Try.f45.ntmps Try.f45.results.toList m [.code (bodyOf Try.f45)] (enter (ivA nBe.ps (x0, x1, ()))) = nBe.go  m x0 x1 := by kernel_rfl
theorem nBe.ret  (hs : SpecsOK Try.prog (nBe.specs ))  (x0 : (El TStatus)) (x1 : (Int × Unit)) {m : Nat} {r : IV} (h : nBe.go  m x0 x1 = some (r, [])) : VE.Returns Try.prog 45 (ivA nBe.ps (x0, x1, ())) r :=
  returns_of_run (cfg := nBe.cfg ) (cfgOK_of mixed tab_ok hs .nil) rfl Try.func45 (body_some (by kernel_rfl)) (Nat.le_of_ble_eq_true (by kernel_rfl)) ((nBe.run_eq  m x0 x1).trans h)
abbrev nBe.Law : Prop := ∀ (x0 : (El TStatus)) (x1 : (Int × Unit)), nBe.pre (x0, x1, ()) = true → VE.Returns Try.prog 45 (ivA nBe.ps (x0, x1, ())) (nBe.res (x0, x1, ()))
theorem nBe.mkR (H : ∀ (x0 : (El TStatus)) (x1 : (Int × Unit)), nBe.pre (x0, x1, ()) = true → VE.Returns Try.prog 45 (ivA nBe.ps (x0, x1, ())) (nBe.res (x0, x1, ()))) : SpecOK Try.prog 45 nBe.sp :=
  specOf_ret Try.func45 (by kernel_rfl) (by kernel_rfl) fun (x : (El TStatus) × (Int × Unit) × Unit) hx => H (x.1) (x.2.1) hx
theorem nBe.mk  (hs : SpecsOK Try.prog (nBe.specs ))  (H : ∀ (x0 : (El TStatus)) (x1 : (Int × Unit)), nBe.pre (x0, x1, ()) = true → ∃ m, nBe.go  m x0 x1 = some (nBe.res (x0, x1, ()), [])) : SpecOK Try.prog 45 nBe.sp :=
  nBe.mkR fun x0 x1 hx => (H x0 x1 hx).elim fun _ hm => nBe.ret  hs  x0 x1 hm

/-! ### slices.IndexFunc(()triage/api.Status,triage/api.Status) -/
abbrev jxBe.ps : List AK := [.d false (.sl TStatus), .ff 45 36 [(true, (.int .i64))]]
def jxBe.pre : ElA jxBe.ps → Bool := fun (x : (List (El TStatus)) × (Int × Unit) × Unit) => fits (.sl TStatus) (x.1) && (fits (.int .i64) (x.2.1.1) && (true))
def jxBe.res : ElA jxBe.ps → IV := fun (x : (List (El TStatus)) × (Int × Unit) × Unit) => (fun l x => vi .i64 (ixOf (noP (pBe x.1)) l)) x.1 x.2.1
def jxBe.sp : ISpec := spOf jxBe.ps jxBe.pre jxBe.res
abbrev jxBe.OK : Prop := SpecOK Try.prog 51 jxBe.sp
noncomputable def jxBe.body : Code := bodyOf Try.f51
noncomputable def jxBe.rs : List ResultVar := Try.f51.results.toList
def jxBe.live : List (Nat × Live) := [(2, ⟨[(0, .sl TStatus), (1, .plain), (7, .plain), (8, .plain)], []⟩)]
noncomputable def jxBe.specs  : List (Nat × (List Bool × ISpec)) := [(45, ([], nBe.sp))]
noncomputable def jxBe.ospecs  : List (Nat × OS) := []
noncomputable def jxBe.cfg  : Cfg := ⟨lkp tab, lkp (jxBe.specs ), lkp jxBe.live, ⟨lkp (jxBe.ospecs ), [], none, false⟩⟩
noncomputable def jxBe.l1  (m : Nat) (x0 : List (El TStatus)) (x1 : Int) (x2 : Int) (x3 : Int) : R := run (jxBe.cfg ) 19 jxBe.rs m ((todoR 2 jxBe.body []).getD []) ⟨ofList (.c .junk) [(0, (.c (.sl TStatus x0))), (1, (.c (.fn 45 [(.snap [(.fn 36 [(.snap [(.v (.int .i64 x1))] 0)])] 0)]))), (7, (.c (.v (.int .i64 x2)))), (8, (.c (.v (.int .i64 x3))))], ofList none [], ofList false []⟩
noncomputable def jxBe.go  (m : Nat) (x0 : (List (El TStatus))) (x1 : (Int × Unit)) : R := run (jxBe.cfg ) 19 jxBe.rs m [.code jxBe.body] (enter (ivA jxBe.ps (x0, x1, ())))
theorem jxBe.start  (m : Nat) (x0 : (List (El TStatus))) (x1 : (Int × Unit)) : jxBe.go  (m + 1) x0 x1 =
  jxBe.l1  m x0 x1.1 ((List.length x0) : Int) (0 : Int) := by kernel_rfl
theorem jxBe.s1  (m : Nat) (x0 : List (El TStatus)) (x1 : Int) (x2 : Int) (x3 : Int) : jxBe.l1  (m + 1) x0 x1 x2 x3 =
  cond (decide (x3 < x2)) (
   test (decide ((0 : Int) ≤ x3)) (
    test (decide (x3 < ((List.length x0) : Int))) (
     test (nBe.pre (((rdEl TStatus x0 (Int.toNat x3))), ((x1, Unit.unit), Unit.unit))) (
      cond (noP (pBe x1) ((rdEl TStatus x0 (Int.toNat x3)))) (
       some ((.c (.v (.int .i64 x3))), [])) (
       jxBe.l1  m x0 x1 x2 (IntKind.i64.wrap (x3 + (1 : Int)))))))) (
   some ((.c (.v (.int .i64 (-(1 : Int))))), [])) := by kernel_rfl
theorem jxBe.run_eq  (m : Nat) (x0 : (List (El TStatus))) (x1 : (Int × Unit)) : run (jxBe.cfg ) Try.f51.ntmps Try.f51.results.toList m [.code (bodyOf Try.f51)] (enter (ivA jxBe.ps (x0, x1, ()))) = jxBe.go  m x0 x1 := by kernel_rfl
theorem jxBe.ret  (hs : SpecsOK Try.prog (jxBe.specs ))  (x0 : (List (El TStatus))) (x1 : (Int × Unit)) {m : Nat} {r : IV} (h : jxBe.go  m x0 x1 = some (r, [])) : VE.Returns Try.prog 51 (ivA jxBe.ps (x0, x1, ())) r :=
  returns_of_run (cfg := jxBe.cfg ) (cfgOK_of mixed tab_ok hs .nil) rfl Try.func51 (body_some (by kernel_rfl)) (Nat.le_of_ble_eq_true (by kernel_rfl)) ((jxBe.run_eq  m x0 x1).trans h)
abbrev jxBe.Law : Prop := ∀ (x0 : (List (El TStatus))) (x1 : (Int × Unit)), jxBe.pre (x0, x1, ()) = true → VE.Returns Try.prog 51 (ivA jxBe.ps (x0, x1, ())) (jxBe.res (x0, x1, ()))
theorem jxBe.mkR (H : ∀ (x0 : (List (El TStatus))) (x1 : (Int × Unit)), jxBe.pre (x0, x1, ()) = true → VE.Returns Try.prog 51 (ivA jxBe.ps (x0, x1, ())) (jxBe.res (x0, x1, ()))) : SpecOK Try.prog 51 jxBe.sp :=
  specOf_ret Try.func51 (by kernel_rfl) (by kernel_rfl) fun (x : (List (El TStatus)) × (Int × Unit) × Unit) hx => H (x.1) (x.2.1) hx
theorem jxBe.mk  (hs : SpecsOK Try.prog (jxBe.specs ))  (H : ∀ (x0 : (List (El TStatus))) (x1 : (Int × Unit)), jxBe.pre (x0, x1, ()) = true → ∃ m, jxBe.go  m x0 x1 = some (jxBe.res (x0, x1, ()), [])) : SpecOK Try.prog 51 jxBe.sp :=
  jxBe.mkR fun x0 x1 hx => (H x0 x1 hx).elim fun _ hm => jxBe.ret  hs  x0 x1 hm

/-! ### slices.DeleteFunc(()triage/api.Status,triage/api.Status) -/
abbrev deBe.ps : List AK := [.m 43 TStatus, .ff 45 36 [(true, (.int .i64))]]
def deBe.pre : ElA deBe.ps → Bool := fun (x : (List (El TStatus)) × (Int × Unit) × Unit) => fits (.sl TStatus) (x.1) && (fits (.int .i64) (x.2.1.1) && (true))
def deBe.rv : ElA deBe.ps → List RV := fun (x : (List (El TStatus)) × (Int × Unit) × Unit) => [.m 43 TStatus ((fun l x => List.filter (pBe x.1) l) x.1 x.2.1)]
def deBe.res : ElA deBe.ps → IV := fun x => oneOrTup (rvIVs 0 (deBe.rv x))
def deBe.back : ElA deBe.ps → List (Nat × Box) := fun (x : (List (El TStatus)) × (Int × Unit) × Unit) => rvBxs 0 (deBe.rv x)
def deBe.sp : OSpec := spO deBe.ps deBe.pre deBe.res deBe.back
abbrev deBe.OK : Prop := SpecOKO Try.prog 43 deBe.sp
noncomputable def deBe.body : Code := bodyOf Try.f43
noncomputable def deBe.rs : List ResultVar := Try.f43.results.toList
def deBe.live : List (Nat × Live) := [(5, ⟨[(0, .arr 43 TStatus), (1, .plain), (5, .plain), (6, .plain)], []⟩)]
noncomputable def deBe.specs  : List (Nat × (List Bool × ISpec)) := [(45, ([], nBe.sp)), (51, ([], jxBe.sp))]
noncomputable def deBe.ospecs  : List (Nat × OS) := []
noncomputable def deBe.cfg  : Cfg := ⟨lkp tab, lkp (deBe.specs ), lkp deBe.live, ⟨lkp (deBe.ospecs ), oids 0 deBe.ps, some ([.arr 43 TStatus], []), true⟩⟩
noncomputable def deBe.l1  (m : Nat) (x0 : Int) (x1 : Int) (x2 : Int) (x3 : List (El TStatus)) : R := run (deBe.cfg ) 42 deBe.rs m ((todoR 5 deBe.body []).getD []) ⟨ofList (.c .junk) [(0, (.c (.sref 126))), (1, (.c (.fn 45 [(.snap [(.fn 36 [(.snap [(.v (.int .i64 x0))] 0)])] 0)]))), (5, (.c (.v (.int .i64 x1)))), (6, (.c (.v (.int .i64 x2))))], ofList none [(126, some (.arr 43 TStatus x3 false))], ofList false [(126, true)]⟩
noncomputable def deBe.go  (m : Nat) (x0 : (List (El TStatus))) (x1 : (Int × Unit)) : R := run (deBe.cfg ) 42 deBe.rs m [.code deBe.body] (enterO (ivAO 0 deBe.ps (x0, x1, ())) (bxAO 0 deBe.ps (x0, x1, ())))
theorem deBe.start  (m : Nat) (x0 : (List (El TStatus))) (x1 : (Int × Unit)) : deBe.go  (m + 1) x0 x1 =
  test (jxBe.pre (x0, ((x1.1, Unit.unit), Unit.unit))) (
   cond ((ixOf (noP (pBe x1.1)) x0) == (-(1 : Int))) (
    some ((.c (.sref 115326)), [(115326, (.arr 43 TStatus x0 false))])) (
    deBe.l1  m x1.1 (ixOf (noP (pBe x1.1)) x0) (IntKind.i64.wrap ((ixOf (noP (pBe x1.1)) x0) + (1 : Int))) x0)) := by kernel_rfl
theorem deBe.s1  (m : Nat) (x0 : Int) (x1 : Int) (x2 : Int) (x3 : List (El TStatus)) : deBe.l1  (m + 1) x0 x1 x2 x3 =
  cond (decide (x2 < ((List.length x3) : Int))) (
   test (decide ((0 : Int) ≤ x2)) (
    test (decide (x2 < ((List.length x3) : Int))) (
     test (nBe.pre (((rdEl TStatus x3 (Int.toNat x2))), ((x0, Unit.unit), Unit.unit))) (
      cond (Bool.not (noP (pBe x0) ((rdEl TStatus x3 (Int.toNat x2))))) (
       test (decide ((0 : Int) ≤ x1)) (
        test (decide (x1 < ((List.length x3) : Int))) (
         deBe.l1  m x0 (IntKind.i64.wrap (x1 + (1 : Int))) (IntKind.i64.wrap (x2 + (1 : Int))) (List.set x3 (Int.toNat x1) ((rdEl TStatus x3 (Int.toNat x2))))))) (
       deBe.l1  m x0 x1 (IntKind.i64.wrap (x2 + (1 : Int))) x3))))) (
   test (decide ((0 : Int) ≤ x1)) (
    test (decide (x1 ≤ ((List.length x3) : Int))) (
     test (decide (((0 + (Int.toNat x1)) + (List.length (List.replicate ((List.length x3) - (Int.toNat x1)) (((0 : Int), ((⟨#[]⟩ : ByteArray), ((0 : Int), ((⟨#[]⟩ : ByteArray), ((0 : Int), ([] : List (El TPair))))))), ((false, ((0 : Int), ((0 : Int), (0 : Int)))), ((0 : Int), (((0 : Int), (0 : Int)), ((false, ((0 : Int), ((0 : Int), (0 : Int)))), (false, ((0 : Int), ((0 : Int), (0 : Int)))))))))))) ≤ (List.length x3))) (
      test (decide ((0 : Int) ≤ x1)) (
       test (decide (x1 ≤ ((List.length (over x3 (0 + (Int.toNat x1)) (List.replicate ((List.length x3) - (Int.toNat x1)) (((0 : Int), ((⟨#[]⟩ : ByteArray), ((0 : Int), ((⟨#[]⟩ : ByteArray), ((0 : Int), ([] : List (El TPair))))))), ((false, ((0 : Int), ((0 : Int), (0 : Int)))), ((0 : Int), (((0 : Int), (0 : Int)), ((false, ((0 : Int), ((0 : Int), (0 : Int)))), (false, ((0 : Int), ((0 : Int), (0 : Int)))))))))))) : Int))) (
        test (decide (((Int.toNat x1) - 0) ≤ (List.length (over x3 (0 + (Int.toNat x1)) (List.replicate ((List.length x3) - (Int.toNat x1)) (((0 : Int), ((⟨#[]⟩ : ByteArray), ((0 : Int), ((⟨#[]⟩ : ByteArray), ((0 : Int), ([] : List (El TPair))))))), ((false, ((0 : Int), ((0 : Int), (0 : Int)))), ((0 : Int), (((0 : Int), (0 : Int)), ((false, ((0 : Int), ((0 : Int), (0 : Int)))), (false, ((0 : Int), ((0 : Int), (0 : Int)))))))))))))) (
         some ((.c (.sref 115326)), [(115326, (.arr 43 TStatus (List.take ((Int.toNat x1) - 0) (over x3 (0 + (Int.toNat x1)) (List.replicate ((List.length x3) - (Int.toNat x1)) (((0 : Int), ((⟨#[]⟩ : ByteArray), ((0 : Int), ((⟨#[]⟩ : ByteArray), ((0 : Int), ([] : List (El TPair))))))), ((false, ((0 : Int), ((0 : Int), (0 : Int)))), ((0 : Int), (((0 : Int), (0 : Int)), ((false, ((0 : Int), ((0 : Int), (0 : Int)))), (false, ((0 : Int), ((0 : Int), (0 : Int)))))))))))) false))])))))))) := by kernel_rfl
theorem deBe.run_eq  (m : Nat) (x0 : (List (El TStatus))) (x1 : (Int × Unit)) : run (deBe.cfg ) Try.f43.ntmps Try.f43.results.toList m [.code (bodyOf Try.f43)] (enterO (ivAO 0 deBe.ps (x0, x1, ())) (bxAO 0 deBe.ps (x0, x1, ()))) = deBe.go  m x0 x1 := by kernel_rfl
theorem deBe.ret  (hs : SpecsOK Try.prog (deBe.specs ))  (x0 : (List (El TStatus))) (x1 : (Int × Unit)) {m : Nat} {r : IV} {b : List (Nat × Box)} (h : deBe.go  m x0 x1 = some (r, b)) : VE.ReturnsO Try.prog 43 (ivAO 0 deBe.ps (x0, x1, ())) (bxAO 0 deBe.ps (x0, x1, ())) r b :=
  returnsO_of_run (cfg := deBe.cfg ) (cfgOK_of mixed tab_ok hs .nil) rfl Try.func43 (body_some (by kernel_rfl)) (Nat.le_of_ble_eq_true (by kernel_rfl)) (fun _ _ _ h => oids_mem h) ((deBe.run_eq  m x0 x1).trans h)
abbrev deBe.Law : Prop := ∀ (x0 : (List (El TStatus))) (x1 : (Int × Unit)), deBe.pre (x0, x1, ()) = true → VE.ReturnsO Try.prog 43 (ivAO 0 deBe.ps (x0, x1, ())) (bxAO 0 deBe.ps (x0, x1, ())) (deBe.res (x0, x1, ())) (deBe.back (x0, x1, ()))
theorem deBe.mkR (H : ∀ (x0 : (List (El TStatus))) (x1 : (Int × Unit)), deBe.pre (x0, x1, ()) = true → VE.ReturnsO Try.prog 43 (ivAO 0 deBe.ps (x0, x1, ())) (bxAO 0 deBe.ps (x0, x1, ())) (deBe.res (x0, x1, ())) (deBe.back (x0, x1, ()))) : SpecOKO Try.prog 43 deBe.sp :=
  specO_ret Try.func43 (by kernel_rfl) (by kernel_rfl) fun (x : (List (El TStatus)) × (Int × Unit) × Unit) hx => H (x.1) (x.2.1) hx
theorem deBe.mk  (hs : SpecsOK Try.prog (deBe.specs ))  (H : ∀ (x0 : (List (El TStatus))) (x1 : (Int × Unit)), deBe.pre (x0, x1, ()) = true → ∃ m, deBe.go  m x0 x1 = some (deBe.res (x0, x1, ()), deBe.back (x0, x1, ()))) : SpecOKO Try.prog 43 deBe.sp :=
  deBe.mkR fun x0 x1 hx => (H x0 x1 hx).elim fun _ hm => deBe.ret  hs  x0 x1 hm

/-! ### triage/fit.those -/
abbrev thBe.ps : List AK := [.d false (.sl TStatus), .f 36 [(true, (.int .i64))]]
def thBe.pre : ElA thBe.ps → Bool := fun (x : (List (El TStatus)) × (Int × Unit) × Unit) => fits (.sl TStatus) (x.1) && (fits (.int .i64) (x.2.1.1) && (true))
def thBe.res : ElA thBe.ps → IV := fun (x : (List (El TStatus)) × (Int × Unit) × Unit) => (fun l x => .c (.sl TStatus (List.filter (pBe x.1) l))) x.1 x.2.1
def thBe.sp : ISpec := spOf thBe.ps thBe.pre thBe.res
abbrev thBe.OK : Prop := SpecOK Try.prog 28 thBe.sp
noncomputable def thBe.body : Code := bodyOf Try.f28
noncomputable def thBe.rs : List ResultVar := Try.f28.results.toList
def thBe.live : List (Nat × Live) := []
noncomputable def thBe.specs  : List (Nat × (List Bool × ISpec)) := []
noncomputable def thBe.ospecs  : List (Nat × OS) := [(44, ⟨[], [], copySO.sp⟩), (43, ⟨[some (.arr 43 TStatus)], [], deBe.sp⟩)]
noncomputable def thBe.cfg  : Cfg := ⟨lkp tab, lkp (thBe.specs ), lkp thBe.live, ⟨lkp (thBe.ospecs ), [], none, false⟩⟩
noncomputable def thBe.go  (m : Nat) (x0 : (List (El TStatus))) (x1 : (Int × Unit)) : R := run (thBe.cfg ) 9 thBe.rs m [.code thBe.body] (enter (ivA thBe.ps (x0, x1, ())))
theorem thBe.start  (m : Nat) (x0 : (List (El TStatus))) (x1 : (Int × Unit)) : thBe.go  (m + 1) x0 x1 =
  test (copySO.pre (x0, Unit.unit)) (
   test (deBe.pre (x0, ((x1.1, Unit.unit), Unit.unit))) (
    some ((.c (.sl TStatus (List.filter (pBe x1.1) x0))), []))) := by kernel_rfl
theorem thBe.run_eq  (m : Nat) (x0 : (List (El TStatus))) (x1 : (Int × Unit)) : run (thBe.cfg ) Try.f28.ntmps Try.f28.results.toList m [.code (bodyOf Try.f28)] (enter (ivA thBe.ps (x0, x1, ()))) = thBe.go  m x0 x1 := by kernel_rfl
theorem thBe.ret  (hs : SpecsOK Try.prog (thBe.specs )) (ho : OSpecsOK Try.prog (thBe.ospecs )) (x0 : (List (El TStatus))) (x1 : (Int × Unit)) {m : Nat} {r : IV} (h : thBe.go  m x0 x1 = some (r, [])) : VE.Returns Try.prog 28 (ivA thBe.ps (x0, x1, ())) r :=
  returns_of_run (cfg := thBe.cfg ) (cfgOK_of mixed tab_ok hs ho) rfl Try.func28 (body_some (by kernel_rfl)) (Nat.le_of_ble_eq_true (by kernel_rfl)) ((thBe.run_eq  m x0 x1).trans h)
abbrev thBe.Law : Prop := ∀ (x0 : (List (El TStatus))) (x1 : (Int × Unit)), thBe.pre (x0, x1, ()) = true → VE.Returns Try.prog 28 (ivA thBe.ps (x0, x1, ())) (thBe.res (x0, x1, ()))
theorem thBe.mkR (H : ∀ (x0 : (List (El TStatus))) (x1 : (Int × Unit)), thBe.pre (x0, x1, ()) = true → VE.Returns Try.prog 28 (ivA thBe.ps (x0, x1, ())) (thBe.res (x0, x1, ()))) : SpecOK Try.prog 28 thBe.sp :=
  specOf_ret Try.func28 (by kernel_rfl) (by kernel_rfl) fun (x : (List (El TStatus)) × (Int × Unit) × Unit) hx => H (x.1) (x.2.1) hx
theorem thBe.mk  (hs : SpecsOK Try.prog (thBe.specs )) (ho : OSpecsOK Try.prog (thBe.ospecs )) (H : ∀ (x0 : (List (El TStatus))) (x1 : (Int × Unit)), thBe.pre (x0, x1, ()) = true → ∃ m, thBe.go  m x0 x1 = some (thBe.res (x0, x1, ()), [])) : SpecOK Try.prog 28 thBe.sp :=
  thBe.mkR fun x0 x1 hx => (H x0 x1 hx).elim fun _ hm => thBe.ret  hs ho x0 x1 hm

/-! ### triage/fit.Of -/
abbrev fOf.ps : List AK := [.d false (.sl TStatus), .d false (.sl TPair), .d false .bool]
def fOf.pre : ElA fOf.ps → Bool := fun (x : (List (El TStatus)) × (List (El TPair)) × Bool × Unit) => fits (.sl TStatus) (x.1) && (fits (.sl TPair) (x.2.1) && (fits .bool (x.2.2.1) && (true)))
def fOf.res : ElA fOf.ps → IV := fun (x : (List (El TStatus)) × (List (El TPair)) × Bool × Unit) => (fun l c b => .c (.sl TStatus (ofL l c b))) x.1 x.2.1 x.2.2.1
def fOf.sp : ISpec := spOf fOf.ps fOf.pre fOf.res
abbrev fOf.OK : Prop := SpecOK Try.prog 12 fOf.sp
noncomputable def fOf.body : Code := bodyOf Try.f12
noncomputable def fOf.rs : List ResultVar := Try.f12.results.toList
def fOf.live : List (Nat × Live) := []
noncomputable def fOf.specs  : List (Nat × (List Bool × ISpec)) := [(27, ([], members.sp)), (28, ([], thOf.sp))]
noncomputable def fOf.ospecs  : List (Nat × OS) := []
noncomputable def fOf.cfg  : Cfg := ⟨lkp tab, lkp (fOf.specs ), lkp fOf.live, ⟨lkp (fOf.ospecs ), [], none, false⟩⟩
noncomputable def fOf.go  (m : Nat) (x0 : (List (El TStatus))) (x1 : (List (El TPair))) (x2 : Bool) : R := run (fOf.cfg ) 22 fOf.rs m [.code fOf.body] (enter (ivA fOf.ps (x0, x1, x2, ())))
theorem fOf.start  (m : Nat) (x0 : (List (El TStatus))) (x1 : (List (El TPair))) (x2 : Bool) : fOf.go  (m + 1) x0 x1 x2 =
  test (members.pre (x0, Unit.unit)) (
   test (thOf.pre ((List.filter memB x0), ((x1, Unit.unit), Unit.unit))) (
    cond (((List.length (List.filter (pOf x1) (List.filter memB x0))) : Int) == (0 : Int)) (
     cond x2 (
      some ((.c (.sl TStatus (List.filter memB x0))), [])) (
      some ((.c (.sl TStatus (List.filter (pOf x1) (List.filter memB x0)))), []))) (
     some ((.c (.sl TStatus (List.filter (pOf x1) (List.filter memB x0)))), [])))) := by kernel_rfl
theorem fOf.run_eq  (m : Nat) (x0 : (List (El TStatus))) (x1 : (List (El TPair))) (x2 : Bool) : run (fOf.cfg ) Try.f12.ntmps Try.f12.results.toList m [.code (bodyOf Try.f12)] (enter (ivA fOf.ps (x0, x1, x2, ()))) = fOf.go  m x0 x1 x2 := by kernel_rfl
theorem fOf.ret  (hs : SpecsOK Try.prog (fOf.specs ))  (x0 : (List (El TStatus))) (x1 : (List (El TPair))) (x2 : Bool) {m : Nat} {r : IV} (h : fOf.go  m x0 x1 x2 = some (r, [])) : VE.Returns Try.prog 12 (ivA fOf.ps (x0, x1, x2, ())) r :=
  returns_of_run (cfg := fOf.cfg ) (cfgOK_of mixed tab_ok hs .nil) rfl Try.func12 (body_some (by kernel_rfl)) (Nat.le_of_ble_eq_true (by kernel_rfl)) ((fOf.run_eq  m x0 x1 x2).trans h)
abbrev fOf.Law : Prop := ∀ (x0 : (List (El TStatus))) (x1 : (List (El TPair))) (x2 : Bool), fOf.pre (x0, x1, x2, ()) = true → VE.Returns Try.prog 12 (ivA fOf.ps (x0, x1, x2, ())) (fOf.res (x0, x1, x2, ()))
theorem fOf.mkR (H : ∀ (x0 : (List (El TStatus))) (x1 : (List (El TPair))) (x2 : Bool), fOf.pre (x0, x1, x2, ()) = true → VE.Returns Try.prog 12 (ivA fOf.ps (x0, x1, x2, ())) (fOf.res (x0, x1, x2, ()))) : SpecOK Try.prog 12 fOf.sp :=
  specOf_ret Try.func12 (by kernel_rfl) (by kernel_rfl) fun (x : (List (El TStatus)) × (List (El TPair)) × Bool × Unit) hx => H (x.1) (x.2.1) (x.2.2.1) hx
theorem fOf.mk  (hs : SpecsOK Try.prog (fOf.specs ))  (H : ∀ (x0 : (List (El TStatus))) (x1 : (List (El TPair))) (x2 : Bool), fOf.pre (x0, x1, x2, ()) = true → ∃ m, fOf.go  m x0 x1 x2 = some (fOf.res (x0, x1, x2, ()), [])) : SpecOK Try.prog 12 fOf.sp :=
  fOf.mkR fun x0 x1 x2 hx => (H x0 x1 x2 hx).elim fun _ hm => fOf.ret  hs  x0 x1 x2 hm

/-! ### triage/fit.Group -/
abbrev fGr.ps : List AK := [.d false (.sl TStatus), .d false (.int .i64)]
def fGr.pre : ElA fGr.ps → Bool := fun (x : (List (El TStatus)) × Int × Unit) => fits (.sl TStatus) (x.1) && (fits (.int .i64) (x.2.1) && (true))
def fGr.res : ElA fGr.ps → IV := fun (x : (List (El TStatus)) × Int × Unit) => (fun l c => .c (.sl TStatus (List.filter (pGr c) l))) x.1 x.2.1
def fGr.sp : ISpec := spOf fGr.ps fGr.pre fGr.res
abbrev fGr.OK : Prop := SpecOK Try.prog 14 fGr.sp
noncomputable def fGr.body : Code := bodyOf Try.f14
noncomputable def fGr.rs : List ResultVar := Try.f14.results.toList
def fGr.live : List (Nat × Live) := []
noncomputable def fGr.specs  : List (Nat × (List Bool × ISpec)) := [(28, ([], thGr.sp))]
noncomputable def fGr.ospecs  : List (Nat × OS) := []
noncomputable def fGr.cfg  : Cfg := ⟨lkp tab, lkp (fGr.specs ), lkp fGr.live, ⟨lkp (fGr.ospecs ), [], none, false⟩⟩
noncomputable def fGr.go  (m : Nat) (x0 : (List (El TStatus))) (x1 : Int) : R := run (fGr.cfg ) 8 fGr.rs m [.code fGr.body] (enter (ivA fGr.ps (x0, x1, ())))
theorem fGr.start  (m : Nat) (x0 : (List (El TStatus))) (x1 : Int) : fGr.go  (m + 1) x0 x1 =
  test (thGr.pre (x0, ((x1, Unit.unit), Unit.unit))) (
   some ((.c (.sl TStatus (List.filter (pGr x1) x0))), [])) := by kernel_rfl
theorem fGr.run_eq  (m : Nat) (x0 : (List (El TStatus))) (x1 : Int) : run (fGr.cfg ) Try.f14.ntmps Try.f14.results.toList m [.code (bodyOf Try.f14)] (enter (ivA fGr.ps (x0, x1, ()))) = fGr.go  m x0 x1 := by kernel_rfl
theorem fGr.ret  (hs : SpecsOK Try.prog (fGr.specs ))  (x0 : (List (El TStatus))) (x1 : Int) {m : Nat} {r : IV} (h : fGr.go  m x0 x1 = some (r, [])) : VE.Returns Try.prog 14 (ivA fGr.ps (x0, x1, ())) r :=
  returns_of_run (cfg := fGr.cfg ) (cfgOK_of mixed tab_ok hs .nil) rfl Try.func14 (body_some (by kernel_rfl)) (Nat.le_of_ble_eq_true (by kernel_rfl)) ((fGr.run_eq  m x0 x1).trans h)
abbrev fGr.Law : Prop := ∀ (x0 : (List (El TStatus))) (x1 : Int), fGr.pre (x0, x1, ()) = true → VE.Returns Try.prog 14 (ivA fGr.ps (x0, x1, ())) (fGr.res (x0, x1, ()))
theorem fGr.mkR (H : ∀ (x0 : (List (El TStatus))) (x1 : Int), fGr.pre (x0, x1, ()) = true → VE.Returns Try.prog 14 (ivA fGr.ps (x0, x1, ())) (fGr.res (x0, x1, ()))) : SpecOK Try.prog 14 fGr.sp :=
  specOf_ret Try.func14 (by kernel_rfl) (by kernel_rfl) fun (x : (List (El TStatus)) × Int × Unit) hx => H (x.1) (x.2.1) hx
theorem fGr.mk  (hs : SpecsOK Try.prog (fGr.specs ))  (H : ∀ (x0 : (List (El TStatus))) (x1 : Int), fGr.pre (x0, x1, ()) = true → ∃ m, fGr.go  m x0 x1 = some (fGr.res (x0, x1, ()), [])) : SpecOK Try.prog 14 fGr.sp :=
  fGr.mkR fun x0 x1 hx => (H x0 x1 hx).elim fun _ hm => fGr.ret  hs  x0 x1 hm

/-! ### triage/fit.Free -/
abbrev fFr.ps : List AK := [.d false (.sl TStatus)]
def fFr.pre : ElA fFr.ps → Bool := fun (x : (List (El TStatus)) × Unit) => fits (.sl TStatus) (x.1) && (true)
def fFr.res : ElA fFr.ps → IV := fun (x : (List (El TStatus)) × Unit) => (fun l => .c (.sl TStatus (List.filter freeB l))) x.1
def fFr.sp : ISpec := spOf fFr.ps fFr.pre fFr.res
abbrev fFr.OK : Prop := SpecOK Try.prog 16 fFr.sp
noncomputable def fFr.body : Code := bodyOf Try.f16
noncomputable def fFr.rs : List ResultVar := Try.f16.results.toList
def fFr.live : List (Nat × Live) := []
noncomputable def fFr.specs  : List (Nat × (List Bool × ISpec)) := [(28, ([], thFr.sp))]
noncomputable def fFr.ospecs  : List (Nat × OS) := []
noncomputable def fFr.cfg  : Cfg := ⟨lkp tab, lkp (fFr.specs ), lkp fFr.live, ⟨lkp (fFr.ospecs ), [], none, false⟩⟩
noncomputable def fFr.go  (m : Nat) (x0 : (List (El TStatus))) : R := run (fFr.cfg ) 5 fFr.rs m [.code fFr.body] (enter (ivA fFr.ps (x0, ())))
theorem fFr.start  (m : Nat) (x0 : (List (El TStatus))) : fFr.go  (m + 1) x0 =
  test (thFr.pre (x0, (Unit.unit, Unit.unit))) (
   some ((.c (.sl TStatus (List.filter freeB x0))), [])) := by kernel_rfl
theorem fFr.run_eq  (m : Nat) (x0 : (List (El TStatus))) : run (fFr.cfg ) Try.f16.ntmps Try.f16.results.toList m [.code (bodyOf Try.f16)] (enter (ivA fFr.ps (x0, ()))) = fFr.go  m x0 := by kernel_rfl
theorem fFr.ret  (hs : SpecsOK Try.prog (fFr.specs ))  (x0 : (List (El TStatus))) {m : Nat} {r : IV} (h : fFr.go  m x0 = some (r, [])) : VE.Returns Try.prog 16 (ivA fFr.ps (x0, ())) r :=
  returns_of_run (cfg := fFr.cfg ) (cfgOK_of mixed tab_ok hs .nil) rfl Try.func16 (body_some (by kernel_rfl)) (Nat.le_of_ble_eq_true (by kernel_rfl)) ((fFr.run_eq  m x0).trans h)
abbrev fFr.Law : Prop := ∀ (x0 : (List (El TStatus))), fFr.pre (x0, ()) = true → VE.Returns Try.prog 16 (ivA fFr.ps (x0, ())) (fFr.res (x0, ()))
theorem fFr.mkR (H : ∀ (x0 : (List (El TStatus))), fFr.pre (x0, ()) = true → VE.Returns Try.prog 16 (ivA fFr.ps (x0, ())) (fFr.res (x0, ()))) : SpecOK Try.prog 16 fFr.sp :=
  specOf_ret Try.func16 (by kernel_rfl) (by kernel_rfl) fun (x : (List (El TStatus)) × Unit) hx => H (x.1) hx
theorem fFr.mk  (hs : SpecsOK Try.prog (fFr.specs ))  (H : ∀ (x0 : (List (El TStatus))), fFr.pre (x0, ()) = true → ∃ m, fFr.go  m x0 = some (fFr.res (x0, ()), [])) : SpecOK Try.prog 16 fFr.sp :=
  fFr.mkR fun x0 hx => (H x0 hx).elim fun _ hm => fFr.ret  hs  x0 hm

/-! ### triage/fit.Without -/
abbrev fWo.ps : List AK := [.d false (.sl TStatus), .d false (.sl (.int .i64))]
def fWo.pre : ElA fWo.ps → Bool := fun (x : (List (El TStatus)) × (List Int) × Unit) => fits (.sl TStatus) (x.1) && (fits (.sl (.int .i64)) (x.2.1) && (true))
def fWo.res : ElA fWo.ps → IV := fun (x : (List (El TStatus)) × (List Int) × Unit) => (fun l c => .c (.sl TStatus (List.filter (pWo c) l))) x.1 x.2.1
def fWo.sp : ISpec := spOf fWo.ps fWo.pre fWo.res
abbrev fWo.OK : Prop := SpecOK Try.prog 18 fWo.sp
noncomputable def fWo.body : Code := bodyOf Try.f18
noncomputable def fWo.rs : List ResultVar := Try.f18.results.toList
def fWo.live : List (Nat × Live) := []
noncomputable def fWo.specs  : List (Nat × (List Bool × ISpec)) := [(28, ([], thWo.sp))]
noncomputable def fWo.ospecs  : List (Nat × OS) := []
noncomputable def fWo.cfg  : Cfg := ⟨lkp tab, lkp (fWo.specs ), lkp fWo.live, ⟨lkp (fWo.ospecs ), [], none, false⟩⟩
noncomputable def fWo.go  (m : Nat) (x0 : (List (El TStatus))) (x1 : (List Int)) : R := run (fWo.cfg ) 8 fWo.rs m [.code fWo.body] (enter (ivA fWo.ps (x0, x1, ())))
theorem fWo.start  (m : Nat) (x0 : (List (El TStatus))) (x1 : (List Int)) : fWo.go  (m + 1) x0 x1 =
  test (thWo.pre (x0, ((x1, Unit.unit), Unit.unit))) (
   some ((.c (.sl TStatus (List.filter (pWo x1) x0))), [])) := by kernel_rfl
theorem fWo.run_eq  (m : Nat) (x0 : (List (El TStatus))) (x1 : (List Int)) : run (fWo.cfg ) Try.f18.ntmps Try.f18.results.toList m [.code (bodyOf Try.f18)] (enter (ivA fWo.ps (x0, x1, ()))) = fWo.go  m x0 x1 := by kernel_rfl
theorem fWo.ret  (hs : SpecsOK Try.prog (fWo.specs ))  (x0 : (List (El TStatus))) (x1 : (List Int)) {m : Nat} {r : IV} (h : fWo.go  m x0 x1 = some (r, [])) : VE.Returns Try.prog 18 (ivA fWo.ps (x0, x1, ())) r :=
  returns_of_run (cfg := fWo.cfg ) (cfgOK_of mixed tab_ok hs .nil) rfl Try.func18 (body_some (by kernel_rfl)) (Nat.le_of_ble_eq_true (by kernel_rfl)) ((fWo.run_eq  m x0 x1).trans h)
abbrev fWo.Law : Prop := ∀ (x0 : (List (El TStatus))) (x1 : (List Int)), fWo.pre (x0, x1, ()) = true → VE.Returns Try.prog 18 (ivA fWo.ps (x0, x1, ())) (fWo.res (x0, x1, ()))
theorem fWo.mkR (H : ∀ (x0 : (List (El TStatus))) (x1 : (List Int)), fWo.pre (x0, x1, ()) = true → VE.Returns Try.prog 18 (ivA fWo.ps (x0, x1, ())) (fWo.res (x0, x1, ()))) : SpecOK Try.prog 18 fWo.sp :=
  specOf_ret Try.func18 (by kernel_rfl) (by kernel_rfl) fun (x : (List (El TStatus)) × (List Int) × Unit) hx => H (x.1) (x.2.1) hx
theorem fWo.mk  (hs : SpecsOK Try.prog (fWo.specs ))  (H : ∀ (x0 : (List (El TStatus))) (x1 : (List Int)), fWo.pre (x0, x1, ()) = true → ∃ m, fWo.go  m x0 x1 = some (fWo.res (x0, x1, ()), [])) : SpecOK Try.prog 18 fWo.sp :=
  fWo.mkR fun x0 x1 hx => (H x0 x1 hx).elim fun _ hm => fWo.ret  hs  x0 x1 hm

/-! ### triage/fit.Below -/
abbrev fBe.ps : List AK := [.d false (.sl TStatus), .d false (.int .i64)]
def fBe.pre : ElA fBe.ps → Bool := fun (x : (List (El TStatus)) × Int × Unit) => fits (.sl TStatus) (x.1) && (fits (.int .i64) (x.2.1) && (true))
def fBe.res : ElA fBe.ps → IV := fun (x : (List (El TStatus)) × Int × Unit) => (fun l c => .c (.sl TStatus (List.filter (pBe c) l))) x.1 x.2.1
def fBe.sp : ISpec := spOf fBe.ps fBe.pre fBe.res
abbrev fBe.OK : Prop := SpecOK Try.prog 20 fBe.sp
noncomputable def fBe.body : Code := bodyOf Try.f20
noncomputable def fBe.rs : List ResultVar := Try.f20.results.toList
def fBe.live : List (Nat × Live) := []
noncomputable def fBe.specs  : List (Nat × (List Bool × ISpec)) := [(28, ([], thBe.sp))]
noncomputable def fBe.ospecs  : List (Nat × OS) := []
noncomputable def fBe.cfg  : Cfg := ⟨lkp tab, lkp (fBe.specs ), lkp fBe.live, ⟨lkp (fBe.ospecs ), [], none, false⟩⟩
noncomputable def fBe.go  (m : Nat) (x0 : (List (El TStatus))) (x1 : Int) : R := run (fBe.cfg ) 8 fBe.rs m [.code fBe.body] (enter (ivA fBe.ps (x0, x1, ())))
theorem fBe.start  (m : Nat) (x0 : (List (El TStatus))) (x1 : Int) : fBe.go  (m + 1) x0 x1 =
  test (thBe.pre (x0, ((x1, Unit.unit), Unit.unit))) (
   some ((.c (.sl TStatus (List.filter (pBe x1) x0))), [])) := by kernel_rfl
theorem fBe.run_eq  (m : Nat) (x0 : (List (El TStatus))) (x1 : Int) : run (fBe.cfg ) Try.f20.ntmps Try.f20.results.toList m [.code (bodyOf Try.f20)] (enter (ivA fBe.ps (x0, x1, ()))) = fBe.go  m x0 x1 := by kernel_rfl
theorem fBe.ret  (hs : SpecsOK Try.prog (fBe.specs ))  (x0 : (List (El TStatus))) (x1 : Int) {m : Nat} {r : IV} (h : fBe.go  m x0 x1 = some (r, [])) : VE.Returns Try.prog 20 (ivA fBe.ps (x0, x1, ())) r :=
  returns_of_run (cfg := fBe.cfg ) (cfgOK_of mixed tab_ok hs .nil) rfl Try.func20 (body_some (by kernel_rfl)) (Nat.le_of_ble_eq_true (by kernel_rfl)) ((fBe.run_eq  m x0 x1).trans h)
abbrev fBe.Law : Prop := ∀ (x0 : (List (El TStatus))) (x1 : Int), fBe.pre (x0, x1, ()) = true → VE.Returns Try.prog 20 (ivA fBe.ps (x0, x1, ())) (fBe.res (x0, x1, ()))
theorem fBe.mkR (H : ∀ (x0 : (List (El TStatus))) (x1 : Int), fBe.pre (x0, x1, ()) = true → VE.Returns Try.prog 20 (ivA fBe.ps (x0, x1, ())) (fBe.res (x0, x1, ()))) : SpecOK Try.prog 20 fBe.sp :=
  specOf_ret Try.func20 (by kernel_rfl) (by kernel_rfl) fun (x : (List (El TStatus)) × Int × Unit) hx => H (x.1) (x.2.1) hx
theorem fBe.mk  (hs : SpecsOK Try.prog (fBe.specs ))  (H : ∀ (x0 : (List (El TStatus))) (x1 : Int), fBe.pre (x0, x1, ()) = true → ∃ m, fBe.go  m x0 x1 = some (fBe.res (x0, x1, ()), [])) : SpecOK Try.prog 20 fBe.sp :=
  fBe.mkR fun x0 x1 hx => (H x0 x1 hx).elim fun _ hm => fBe.ret  hs  x0 x1 hm

/-! ### triage/triageref10.Of -/
abbrev rOf.ps : List AK := [.d false (.sl TStatus), .d false (.sl TPair), .d false .bool]
def rOf.pre : ElA rOf.ps → Bool := fun (x : (List (El TStatus)) × (List (El TPair)) × Bool × Unit) => fits (.sl TStatus) (x.1) && (fits (.sl TPair) (x.2.1) && (fits .bool (x.2.2.1) && (true)))
def rOf.res : ElA rOf.ps → IV := fun (x : (List (El TStatus)) × (List (El TPair)) × Bool × Unit) => (fun l c b => .c (.sl TStatus (ofL l c b))) x.1 x.2.1 x.2.2.1
def rOf.sp : ISpec := spOf rOf.ps rOf.pre rOf.res
abbrev rOf.OK : Prop := SpecOK Try.prog 13 rOf.sp
noncomputable def rOf.body : Code := bodyOf Try.f13
noncomputable def rOf.rs : List ResultVar := Try.f13.results.toList
def rOf.live : List (Nat × Live) := [(3, ⟨[(0, .sl TStatus), (1, .sl TPair), (2, .plain), (7, .arr 43 TStatus), (11, .sl TStatus), (12, .plain), (13, .plain)], []⟩)]
noncomputable def rOf.specs  : List (Nat × (List Bool × ISpec)) := [(25, ([], membersR.sp)), (24, ([], hasR.sp))]
noncomputable def rOf.ospecs  : List (Nat × OS) := []
noncomputable def rOf.cfg  : Cfg := ⟨lkp tab, lkp (rOf.specs ), lkp rOf.live, ⟨lkp (rOf.ospecs ), [], none, false⟩⟩
noncomputable def rOf.l1  (m : Nat) (x0 : List (El TStatus)) (x1 : List (El TPair)) (x2 : Bool) (x3 : List (El TStatus)) (x4 : Int) (x5 : Int) (x6 : List (El TStatus)) : R := run (rOf.cfg ) 35 rOf.rs m ((todoR 3 rOf.body []).getD []) ⟨ofList (.c .junk) [(0, (.c (.sl TStatus x0))), (1, (.c (.sl TPair x1))), (2, (.c (.v (.bool x2)))), (7, (.c (.sref 1022))), (11, (.c (.sl TStatus x3))), (12, (.c (.v (.int .i64 x4)))), (13, (.c (.v (.int .i64 x5))))], ofList none [(1022, some (.arr 43 TStatus x6 false))], ofList false [(1022, true)]⟩
noncomputable def rOf.go  (m : Nat) (x0 : (List (El TStatus))) (x1 : (List (El TPair))) (x2 : Bool) : R := run (rOf.cfg ) 35 rOf.rs m [.code rOf.body] (enter (ivA rOf.ps (x0, x1, x2, ())))
theorem rOf.start  (m : Nat) (x0 : (List (El TStatus))) (x1 : (List (El TPair))) (x2 : Bool) : rOf.go  (m + 1) x0 x1 x2 =
  test (membersR.pre (x0, Unit.unit)) (
   rOf.l1  m x0 x1 x2 (List.filter memB x0) ((List.length (List.filter memB x0)) : Int) (0 : Int) ([] : List (El TStatus))) := by kernel_rfl
theorem rOf.s1  (m : Nat) (x0 : List (El TStatus)) (x1 : List (El TPair)) (x2 : Bool) (x3 : List (El TStatus)) (x4 : Int) (x5 : Int) (x6 : List (El TStatus)) : rOf.l1  (m + 1) x0 x1 x2 x3 x4 x5 x6 =
  cond (decide (x5 < x4)) (
   test (decide ((0 : Int) ≤ x5)) (
    test (decide (x5 < ((List.length x3) : Int))) (
     test (hasR.pre (((rdEl TStatus x3 (Int.toNat x5))).1, (x1, Unit.unit))) (
      cond (hasB ((rdEl TStatus x3 (Int.toNat x5))).1 x1) (
       test (decide (((List.length x6) + (List.length (((rdEl TStatus x3 (Int.toNat x5))) :: ([] : List (El TStatus))))) ≤ (lim 200))) (
        rOf.l1  m x0 x1 x2 x3 x4 (IntKind.i64.wrap (x5 + (1 : Int))) (x6 ++ (((rdEl TStatus x3 (Int.toNat x5))) :: ([] : List (El TStatus)))))) (
       rOf.l1  m x0 x1 x2 x3 x4 (IntKind.i64.wrap (x5 + (1 : Int))) x6))))) (
   cond (((List.length x6) : Int) == (0 : Int)) (
    cond x2 (
     test (membersR.pre (x0, Unit.unit)) (
      some ((.c (.sl TStatus (List.filter memB x0))), []))) (
     some ((.c (.sl TStatus x6)), []))) (
    some ((.c (.sl TStatus x6)), []))) := by kernel_rfl
theorem rOf.run_eq  (m : Nat) (x0 : (List (El TStatus))) (x1 : (List (El TPair))) (x2 : Bool) : run (rOf.cfg ) Try.f13.ntmps Try.f13.results.toList m [.code (bodyOf Try.f13)] (enter (ivA rOf.ps (x0, x1, x2, ()))) = rOf.go  m x0 x1 x2 := by kernel_rfl
theorem rOf.ret  (hs : SpecsOK Try.prog (rOf.specs ))  (x0 : (List (El TStatus))) (x1 : (List (El TPair))) (x2 : Bool) {m : Nat} {r : IV} (h : rOf.go  m x0 x1 x2 = some (r, [])) : VE.Returns Try.prog 13 (ivA rOf.ps (x0, x1, x2, ())) r :=
  returns_of_run (cfg := rOf.cfg ) (cfgOK_of mixed tab_ok hs .nil) rfl Try.func13 (body_some (by kernel_rfl)) (Nat.le_of_ble_eq_true (by kernel_rfl)) ((rOf.run_eq  m x0 x1 x2).trans h)
abbrev rOf.Law : Prop := ∀ (x0 : (List (El TStatus))) (x1 : (List (El TPair))) (x2 : Bool), rOf.pre (x0, x1, x2, ()) = true → VE.Returns Try.prog 13 (ivA rOf.ps (x0, x1, x2, ())) (rOf.res (x0, x1, x2, ()))
theorem rOf.mkR (H : ∀ (x0 : (List (El TStatus))) (x1 : (List (El TPair))) (x2 : Bool), rOf.pre (x0, x1, x2, ()) = true → VE.Returns Try.prog 13 (ivA rOf.ps (x0, x1, x2, ())) (rOf.res (x0, x1, x2, ()))) : SpecOK Try.prog 13 rOf.sp :=
  specOf_ret Try.func13 (by kernel_rfl) (by kernel_rfl) fun (x : (List (El TStatus)) × (List (El TPair)) × Bool × Unit) hx => H (x.1) (x.2.1) (x.2.2.1) hx
theorem rOf.mk  (hs : SpecsOK Try.prog (rOf.specs ))  (H : ∀ (x0 : (List (El TStatus))) (x1 : (List (El TPair))) (x2 : Bool), rOf.pre (x0, x1, x2, ()) = true → ∃ m, rOf.go  m x0 x1 x2 = some (rOf.res (x0, x1, x2, ()), [])) : SpecOK Try.prog 13 rOf.sp :=
  rOf.mkR fun x0 x1 x2 hx => (H x0 x1 x2 hx).elim fun _ hm => rOf.ret  hs  x0 x1 x2 hm

/-! ### triage/triageref10.Group -/
abbrev rGr.ps : List AK := [.d false (.sl TStatus), .d false (.int .i64)]
def rGr.pre : ElA rGr.ps → Bool := fun (x : (List (El TStatus)) × Int × Unit) => fits (.sl TStatus) (x.1) && (fits (.int .i64) (x.2.1) && (true))
def rGr.res : ElA rGr.ps → IV := fun (x : (List (El TStatus)) × Int × Unit) => (fun l c => .c (.sl TStatus (List.filter (pGr c) l))) x.1 x.2.1
def rGr.sp : ISpec := spOf rGr.ps rGr.pre rGr.res
abbrev rGr.OK : Prop := SpecOK Try.prog 15 rGr.sp
noncomputable def rGr.body : Code := bodyOf Try.f15
noncomputable def rGr.rs : List ResultVar := Try.f15.results.toList
def rGr.live : List (Nat × Live) := [(3, ⟨[(1, .plain), (5, .arr 43 TStatus), (8, .sl TStatus), (9, .plain), (10, .plain)], []⟩)]
noncomputable def rGr.specs  : List (Nat × (List Bool × ISpec)) := [(32, ([], copyOne.sp))]
noncomputable def rGr.ospecs  : List (Nat × OS) := []
noncomputable def rGr.cfg  : Cfg := ⟨lkp tab, lkp (rGr.specs ), lkp rGr.live, ⟨lkp (rGr.ospecs ), [], none, false⟩⟩
noncomputable def rGr.l1  (m : Nat) (x0 : Int) (x1 : List (El TStatus)) (x2 : Int) (x3 : Int) (x4 : List (El TStatus)) : R := run (rGr.cfg ) 26 rGr.rs m ((todoR 3 rGr.body []).getD []) ⟨ofList (.c .junk) [(1, (.c (.v (.int .i64 x0)))), (5, (.c (.sref 766))), (8, (.c (.sl TStatus x1))), (9, (.c (.v (.int .i64 x2)))), (10, (.c (.v (.int .i64 x3))))], ofList none [(766, some (.arr 43 TStatus x4 false))], ofList false [(766, true)]⟩
noncomputable def rGr.go  (m : Nat) (x0 : (List (El TStatus))) (x1 : Int) : R := run (rGr.cfg ) 26 rGr.rs m [.code rGr.body] (enter (ivA rGr.ps (x0, x1, ())))
theorem rGr.start  (m : Nat) (x0 : (List (El TStatus))) (x1 : Int) : rGr.go  (m + 1) x0 x1 =
  rGr.l1  m x1 x0 ((List.length x0) : Int) (0 : Int) ([] : List (El TStatus)) := by kernel_rfl
theorem rGr.s1  (m : Nat) (x0 : Int) (x1 : List (El TStatus)) (x2 : Int) (x3 : Int) (x4 : List (El TStatus)) : rGr.l1  (m + 1) x0 x1 x2 x3 x4 =
  cond (decide (x3 < x2)) (
   test (decide ((0 : Int) ≤ x3)) (
    test (decide (x3 < ((List.length x1) : Int))) (
     cond ((((((rdEl TStatus x1 (Int.toNat x3))).1).2).2).1 == x0) (
      test (copyOne.pre (((rdEl TStatus x1 (Int.toNat x3))), Unit.unit)) (
       test (decide (((List.length x4) + (List.length (((rdEl TStatus x1 (Int.toNat x3))) :: ([] : List (El TStatus))))) ≤ (lim 200))) (
        rGr.l1  m x0 x1 x2 (IntKind.i64.wrap (x3 + (1 : Int))) (x4 ++ (((rdEl TStatus x1 (Int.toNat x3))) :: ([] : List (El TStatus))))))) (
      rGr.l1  m x0 x1 x2 (IntKind.i64.wrap (x3 + (1 : Int))) x4)))) (
   some ((.c (.sl TStatus x4)), [])) := by kernel_rfl
theorem rGr.run_eq  (m : Nat) (x0 : (List (El TStatus))) (x1 : Int) : run (rGr.cfg ) Try.f15.ntmps Try.f15.results.toList m [.code (bodyOf Try.f15)] (enter (ivA rGr.ps (x0, x1, ()))) = rGr.go  m x0 x1 := by kernel_rfl
theorem rGr.ret  (hs : SpecsOK Try.prog (rGr.specs ))  (x0 : (List (El TStatus))) (x1 : Int) {m : Nat} {r : IV} (h : rGr.go  m x0 x1 = some (r, [])) : VE.Returns Try.prog 15 (ivA rGr.ps (x0, x1, ())) r :=
  returns_of_run (cfg := rGr.cfg ) (cfgOK_of mixed tab_ok hs .nil) rfl Try.func15 (body_some (by kernel_rfl)) (Nat.le_of_ble_eq_true (by kernel_rfl)) ((rGr.run_eq  m x0 x1).trans h)
abbrev rGr.Law : Prop := ∀ (x0 : (List (El TStatus))) (x1 : Int), rGr.pre (x0, x1, ()) = true → VE.Returns Try.prog 15 (ivA rGr.ps (x0, x1, ())) (rGr.res (x0, x1, ()))
theorem rGr.mkR (H : ∀ (x0 : (List (El TStatus))) (x1 : Int), rGr.pre (x0, x1, ()) = true → VE.Returns Try.prog 15 (ivA rGr.ps (x0, x1, ())) (rGr.res (x0, x1, ()))) : SpecOK Try.prog 15 rGr.sp :=
  specOf_ret Try.func15 (by kernel_rfl) (by kernel_rfl) fun (x : (List (El TStatus)) × Int × Unit) hx => H (x.1) (x.2.1) hx
theorem rGr.mk  (hs : SpecsOK Try.prog (rGr.specs ))  (H : ∀ (x0 : (List (El TStatus))) (x1 : Int), rGr.pre (x0, x1, ()) = true → ∃ m, rGr.go  m x0 x1 = some (rGr.res (x0, x1, ()), [])) : SpecOK Try.prog 15 rGr.sp :=
  rGr.mkR fun x0 x1 hx => (H x0 x1 hx).elim fun _ hm => rGr.ret  hs  x0 x1 hm

/-! ### triage/triageref10.Frees -/
abbrev rFr.ps : List AK := [.d false (.sl TStatus)]
def rFr.pre : ElA rFr.ps → Bool := fun (x : (List (El TStatus)) × Unit) => fits (.sl TStatus) (x.1) && (true)
def rFr.res : ElA rFr.ps → IV := fun (x : (List (El TStatus)) × Unit) => (fun l => .c (.sl TStatus (List.filter freeB l))) x.1
def rFr.sp : ISpec := spOf rFr.ps rFr.pre rFr.res
abbrev rFr.OK : Prop := SpecOK Try.prog 17 rFr.sp
noncomputable def rFr.body : Code := bodyOf Try.f17
noncomputable def rFr.rs : List ResultVar := Try.f17.results.toList
def rFr.live : List (Nat × Live) := [(3, ⟨[(3, .arr 43 TStatus), (6, .sl TStatus), (7, .plain), (8, .plain)], []⟩)]
noncomputable def rFr.specs  : List (Nat × (List Bool × ISpec)) := [(32, ([], copyOne.sp)), (22, ([], freeR.sp))]
noncomputable def rFr.ospecs  : List (Nat × OS) := []
noncomputable def rFr.cfg  : Cfg := ⟨lkp tab, lkp (rFr.specs ), lkp rFr.live, ⟨lkp (rFr.ospecs ), [], none, false⟩⟩
noncomputable def rFr.l1  (m : Nat) (x0 : List (El TStatus)) (x1 : Int) (x2 : Int) (x3 : List (El TStatus)) : R := run (rFr.cfg ) 21 rFr.rs m ((todoR 3 rFr.body []).getD []) ⟨ofList (.c .junk) [(3, (.c (.sref 510))), (6, (.c (.sl TStatus x0))), (7, (.c (.v (.int .i64 x1)))), (8, (.c (.v (.int .i64 x2))))], ofList none [(510, some (.arr 43 TStatus x3 false))], ofList false [(510, true)]⟩
noncomputable def rFr.go  (m : Nat) (x0 : (List (El TStatus))) : R := run (rFr.cfg ) 21 rFr.rs m [.code rFr.body] (enter (ivA rFr.ps (x0, ())))
theorem rFr.start  (m : Nat) (x0 : (List (El TStatus))) : rFr.go  (m + 1) x0 =
  rFr.l1  m x0 ((List.length x0) : Int) (0 : Int) ([] : List (El TStatus)) := by kernel_rfl
theorem rFr.s1  (m : Nat) (x0 : List (El TStatus)) (x1 : Int) (x2 : Int) (x3 : List (El TStatus)) : rFr.l1  (m + 1) x0 x1 x2 x3 =
  cond (decide (x2 < x1)) (
   test (decide ((0 : Int) ≤ x2)) (
    test (decide (x2 < ((List.length x0) : Int))) (
     test (freeR.pre (((rdEl TStatus x0 (Int.toNat x2))), Unit.unit)) (
      cond (freeB ((rdEl TStatus x0 (Int.toNat x2)))) (
       test (copyOne.pre (((rdEl TStatus x0 (Int.toNat x2))), Unit.unit)) (
        test (decide (((List.length x3) + (List.length (((rdEl TStatus x0 (Int.toNat x2))) :: ([] : List (El TStatus))))) ≤ (lim 200))) (
         rFr.l1  m x0 x1 (IntKind.i64.wrap (x2 + (1 : Int))) (x3 ++ (((rdEl TStatus x0 (Int.toNat x2))) :: ([] : List (El TStatus))))))) (
       rFr.l1  m x0 x1 (IntKind.i64.wrap (x2 + (1 : Int))) x3))))) (
   some ((.c (.sl TStatus x3)), [])) := by kernel_rfl
theorem rFr.run_eq  (m : Nat) (x0 : (List (El TStatus))) : run (rFr.cfg ) Try.f17.ntmps Try.f17.results.toList m [.code (bodyOf Try.f17)] (enter (ivA rFr.ps (x0, ()))) = rFr.go  m x0 := by kernel_rfl
theorem rFr.ret  (hs : SpecsOK Try.prog (rFr.specs ))  (x0 : (List (El TStatus))) {m : Nat} {r : IV} (h : rFr.go  m x0 = some (r, [])) : VE.Returns Try.prog 17 (ivA rFr.ps (x0, ())) r :=
  returns_of_run (cfg := rFr.cfg ) (cfgOK_of mixed tab_ok hs .nil) rfl Try.func17 (body_some (by kernel_rfl)) (Nat.le_of_ble_eq_true (by kernel_rfl)) ((rFr.run_eq  m x0).trans h)
abbrev rFr.Law : Prop := ∀ (x0 : (List (El TStatus))), rFr.pre (x0, ()) = true → VE.Returns Try.prog 17 (ivA rFr.ps (x0, ())) (rFr.res (x0, ()))
theorem rFr.mkR (H : ∀ (x0 : (List (El TStatus))), rFr.pre (x0, ()) = true → VE.Returns Try.prog 17 (ivA rFr.ps (x0, ())) (rFr.res (x0, ()))) : SpecOK Try.prog 17 rFr.sp :=
  specOf_ret Try.func17 (by kernel_rfl) (by kernel_rfl) fun (x : (List (El TStatus)) × Unit) hx => H (x.1) hx
theorem rFr.mk  (hs : SpecsOK Try.prog (rFr.specs ))  (H : ∀ (x0 : (List (El TStatus))), rFr.pre (x0, ()) = true → ∃ m, rFr.go  m x0 = some (rFr.res (x0, ()), [])) : SpecOK Try.prog 17 rFr.sp :=
  rFr.mkR fun x0 hx => (H x0 hx).elim fun _ hm => rFr.ret  hs  x0 hm

/-! ### triage/triageref10.Without -/
abbrev rWo.ps : List AK := [.d false (.sl TStatus), .d false (.sl (.int .i64))]
def rWo.pre : ElA rWo.ps → Bool := fun (x : (List (El TStatus)) × (List Int) × Unit) => fits (.sl TStatus) (x.1) && (fits (.sl (.int .i64)) (x.2.1) && (true))
def rWo.res : ElA rWo.ps → IV := fun (x : (List (El TStatus)) × (List Int) × Unit) => (fun l c => .c (.sl TStatus (List.filter (pWo c) l))) x.1 x.2.1
def rWo.sp : ISpec := spOf rWo.ps rWo.pre rWo.res
abbrev rWo.OK : Prop := SpecOK Try.prog 19 rWo.sp
noncomputable def rWo.body : Code := bodyOf Try.f19
noncomputable def rWo.rs : List ResultVar := Try.f19.results.toList
def rWo.live : List (Nat × Live) := [(7, ⟨[(1, .sl (.int .i64)), (5, .arr 43 TStatus), (7, .plain), (8, .plain), (11, .sl TStatus), (12, .plain), (13, .plain), (17, .sl (.int .i64)), (18, .plain), (19, .plain)], [(2053, [])]⟩), (3, ⟨[(1, .sl (.int .i64)), (5, .arr 43 TStatus), (11, .sl TStatus), (12, .plain), (13, .plain)], []⟩)]
noncomputable def rWo.specs  : List (Nat × (List Bool × ISpec)) := [(32, ([], copyOne.sp))]
noncomputable def rWo.ospecs  : List (Nat × OS) := []
noncomputable def rWo.cfg  : Cfg := ⟨lkp tab, lkp (rWo.specs ), lkp rWo.live, ⟨lkp (rWo.ospecs ), [], none, false⟩⟩
noncomputable def rWo.l1  (m : Nat) (x0 : List Int) (x1 : List (El TStatus)) (x2 : Int) (x3 : Int) (x4 : List (El TStatus)) : R := run (rWo.cfg ) 41 rWo.rs m ((todoR 3 rWo.body []).getD []) ⟨ofList (.c .junk) [(1, (.c (.sl (.int .i64) x0))), (5, (.c (.sref 766))), (11, (.c (.sl TStatus x1))), (12, (.c (.v (.int .i64 x2)))), (13, (.c (.v (.int .i64 x3))))], ofList none [(766, some (.arr 43 TStatus x4 false))], ofList false [(766, true)]⟩
noncomputable def rWo.l2  (m : Nat) (x0 : List Int) (x1 : Bool) (x2 : List (El TStatus)) (x3 : Int) (x4 : Int) (x5 : List Int) (x6 : Int) (x7 : Int) (x8 : List (El TStatus)) (x9 : Int) (x10 : ByteArray) (x11 : Int) (x12 : ByteArray) (x13 : Int) (x14 : List (El TPair)) (x15 : Bool) (x16 : Int) (x17 : Int) (x18 : Int) (x19 : Int) (x20 : Int) (x21 : Int) (x22 : Bool) (x23 : Int) (x24 : Int) (x25 : Int) (x26 : Bool) (x27 : Int) (x28 : Int) (x29 : Int) : R := run (rWo.cfg ) 41 rWo.rs m ((todoR 7 rWo.body []).getD []) ⟨ofList (.c .junk) [(1, (.c (.sl (.int .i64) x0))), (5, (.c (.sref 766))), (7, (.c (.ref 2053 0))), (8, (.c (.v (.bool x1)))), (11, (.c (.sl TStatus x2))), (12, (.c (.v (.int .i64 x3)))), (13, (.c (.v (.int .i64 x4)))), (17, (.c (.sl (.int .i64) x5))), (18, (.c (.v (.int .i64 x6)))), (19, (.c (.v (.int .i64 x7))))], ofList none [(766, some (.arr 43 TStatus x8 false)), (2053, some (.cells 43 [(.v (.int .i64 x9)), (.v (.string x10)), (.v (.int .i64 x11)), (.v (.string x12)), (.v (.int .i64 x13)), (.sl TPair x14), (.v (.bool x15)), (.v (.int .i64 x16)), (.v (.int .i64 x17)), (.v (.int .i64 x18)), (.v (.int .i64 x19)), (.v (.int .i64 x20)), (.v (.int .i64 x21)), (.v (.bool x22)), (.v (.int .i64 x23)), (.v (.int .i64 x24)), (.v (.int .i64 x25)), (.v (.bool x26)), (.v (.int .i64 x27)), (.v (.int .i64 x28)), (.v (.int .i64 x29))]))], ofList false [(766, true), (2053, true)]⟩
noncomputable def rWo.go  (m : Nat) (x0 : (List (El TStatus))) (x1 : (List Int)) : R := run (rWo.cfg ) 41 rWo.rs m [.code rWo.body] (enter (ivA rWo.ps (x0, x1, ())))
theorem rWo.start  (m : Nat) (x0 : (List (El TStatus))) (x1 : (List Int)) : rWo.go  (m + 1) x0 x1 =
  rWo.l1  m x1 x0 ((List.length x0) : Int) (0 : Int) ([] : List (El TStatus)) := by kernel_rfl
theorem rWo.s1  (m : Nat) (x0 : List Int) (x1 : List (El TStatus)) (x2 : Int) (x3 : Int) (x4 : List (El TStatus)) : rWo.l1  (m + 1) x0 x1 x2 x3 x4 =
  cond (decide (x3 < x2)) (
   test (decide ((0 : Int) ≤ x3)) (
    test (decide (x3 < ((List.length x1) : Int))) (
     rWo.l2  m x0 false x1 x2 x3 x0 ((List.length x0) : Int) (0 : Int) x4 (((rdEl TStatus x1 (Int.toNat x3))).1).1 ((((rdEl TStatus x1 (Int.toNat x3))).1).2).1 (((((rdEl TStatus x1 (Int.toNat x3))).1).2).2).1 ((((((rdEl TStatus x1 (Int.toNat x3))).1).2).2).2).1 (((((((rdEl TStatus x1 (Int.toNat x3))).1).2).2).2).2).1 (((((((rdEl TStatus x1 (Int.toNat x3))).1).2).2).2).2).2 ((((rdEl TStatus x1 (Int.toNat x3))).2).1).1 (((((rdEl TStatus x1 (Int.toNat x3))).2).1).2).1 ((((((rdEl TStatus x1 (Int.toNat x3))).2).1).2).2).1 ((((((rdEl TStatus x1 (Int.toNat x3))).2).1).2).2).2 ((((rdEl TStatus x1 (Int.toNat x3))).2).2).1 ((((((rdEl TStatus x1 (Int.toNat x3))).2).2).2).1).1 ((((((rdEl TStatus x1 (Int.toNat x3))).2).2).2).1).2 (((((((rdEl TStatus x1 (Int.toNat x3))).2).2).2).2).1).1 ((((((((rdEl TStatus x1 (Int.toNat x3))).2).2).2).2).1).2).1 (((((((((rdEl TStatus x1 (Int.toNat x3))).2).2).2).2).1).2).2).1 (((((((((rdEl TStatus x1 (Int.toNat x3))).2).2).2).2).1).2).2).2 (((((((rdEl TStatus x1 (Int.toNat x3))).2).2).2).2).2).1 ((((((((rdEl TStatus x1 (Int.toNat x3))).2).2).2).2).2).2).1 (((((((((rdEl TStatus x1 (Int.toNat x3))).2).2).2).2).2).2).2).1 (((((((((rdEl TStatus x1 (Int.toNat x3))).2).2).2).2).2).2).2).2))) (
   some ((.c (.sl TStatus x4)), [])) := by kernel_rfl
theorem rWo.s2  (m : Nat) (x0 : List Int) (x1 : Bool) (x2 : List (El TStatus)) (x3 : Int) (x4 : Int) (x5 : List Int) (x6 : Int) (x7 : Int) (x8 : List (El TStatus)) (x9 : Int) (x10 : ByteArray) (x11 : Int) (x12 : ByteArray) (x13 : Int) (x14 : List (El TPair)) (x15 : Bool) (x16 : Int) (x17 : Int) (x18 : Int) (x19 : Int) (x20 : Int) (x21 : Int) (x22 : Bool) (x23 : Int) (x24 : Int) (x25 : Int) (x26 : Bool) (x27 : Int) (x28 : Int) (x29 : Int) : rWo.l2  (m + 1) x0 x1 x2 x3 x4 x5 x6 x7 x8 x9 x10 x11 x12 x13 x14 x15 x16 x17 x18 x19 x20 x21 x22 x23 x24 x25 x26 x27 x28 x29 =
  cond (decide (x7 < x6)) (
   test (decide ((0 : Int) ≤ x7)) (
    test (decide (x7 < ((List.length x5) : Int))) (
     cond x1 (
      rWo.l2  m x0 true x2 x3 x4 x5 x6 (IntKind.i64.wrap (x7 + (1 : Int))) x8 x9 x10 x11 x12 x13 x14 x15 x16 x17 x18 x19 x20 x21 x22 x23 x24 x25 x26 x27 x28 x29) (
      rWo.l2  m x0 ((rdEl (.int .i64) x5 (Int.toNat x7)) == x9) x2 x3 x4 x5 x6 (IntKind.i64.wrap (x7 + (1 : Int))) x8 x9 x10 x11 x12 x13 x14 x15 x16 x17 x18 x19 x20 x21 x22 x23 x24 x25 x26 x27 x28 x29)))) (
   cond (Bool.not x1) (
    test (copyOne.pre (((x9, (x10, (x11, (x12, (x13, x14))))), ((x15, (x16, (x17, x18))), (x19, ((x20, x21), ((x22, (x23, (x24, x25))), (x26, (x27, (x28, x29)))))))), Unit.unit)) (
     test (decide (((List.length x8) + (List.length (((x9, (x10, (x11, (x12, (x13, x14))))), ((x15, (x16, (x17, x18))), (x19, ((x20, x21), ((x22, (x23, (x24, x25))), (x26, (x27, (x28, x29)))))))) :: ([] : List (El TStatus))))) ≤ (lim 200))) (
      rWo.l1  m x0 x2 x3 (IntKind.i64.wrap (x4 + (1 : Int))) (x8 ++ (((x9, (x10, (x11, (x12, (x13, x14))))), ((x15, (x16, (x17, x18))), (x19, ((x20, x21), ((x22, (x23, (x24, x25))), (x26, (x27, (x28, x29)))))))) :: ([] : List (El TStatus))))))) (
    rWo.l1  m x0 x2 x3 (IntKind.i64.wrap (x4 + (1 : Int))) x8)) := by kernel_rfl
theorem rWo.run_eq  (m : Nat) (x0 : (List (El TStatus))) (x1 : (List Int)) : run (rWo.cfg ) Try.f19.ntmps Try.f19.results.toList m [.code (bodyOf Try.f19)] (enter (ivA rWo.ps (x0, x1, ()))) = rWo.go  m x0 x1 := by kernel_rfl
theorem rWo.ret  (hs : SpecsOK Try.prog (rWo.specs ))  (x0 : (List (El TStatus))) (x1 : (List Int)) {m : Nat} {r : IV} (h : rWo.go  m x0 x1 = some (r, [])) : VE.Returns Try.prog 19 (ivA rWo.ps (x0, x1, ())) r :=
  returns_of_run (cfg := rWo.cfg ) (cfgOK_of mixed tab_ok hs .nil) rfl Try.func19 (body_some (by kernel_rfl)) (Nat.le_of_ble_eq_true (by kernel_rfl)) ((rWo.run_eq  m x0 x1).trans h)
abbrev rWo.Law : Prop := ∀ (x0 : (List (El TStatus))) (x1 : (List Int)), rWo.pre (x0, x1, ()) = true → VE.Returns Try.prog 19 (ivA rWo.ps (x0, x1, ())) (rWo.res (x0, x1, ()))
theorem rWo.mkR (H : ∀ (x0 : (List (El TStatus))) (x1 : (List Int)), rWo.pre (x0, x1, ()) = true → VE.Returns Try.prog 19 (ivA rWo.ps (x0, x1, ())) (rWo.res (x0, x1, ()))) : SpecOK Try.prog 19 rWo.sp :=
  specOf_ret Try.func19 (by kernel_rfl) (by kernel_rfl) fun (x : (List (El TStatus)) × (List Int) × Unit) hx => H (x.1) (x.2.1) hx
theorem rWo.mk  (hs : SpecsOK Try.prog (rWo.specs ))  (H : ∀ (x0 : (List (El TStatus))) (x1 : (List Int)), rWo.pre (x0, x1, ()) = true → ∃ m, rWo.go  m x0 x1 = some (rWo.res (x0, x1, ()), [])) : SpecOK Try.prog 19 rWo.sp :=
  rWo.mkR fun x0 x1 hx => (H x0 x1 hx).elim fun _ hm => rWo.ret  hs  x0 x1 hm

/-! ### triage/triageref10.Below -/
abbrev rBe.ps : List AK := [.d false (.sl TStatus), .d false (.int .i64)]
def rBe.pre : ElA rBe.ps → Bool := fun (x : (List (El TStatus)) × Int × Unit) => fits (.sl TStatus) (x.1) && (fits (.int .i64) (x.2.1) && (true))
def rBe.res : ElA rBe.ps → IV := fun (x : (List (El TStatus)) × Int × Unit) => (fun l c => .c (.sl TStatus (List.filter (pBe c) l))) x.1 x.2.1
def rBe.sp : ISpec := spOf rBe.ps rBe.pre rBe.res
abbrev rBe.OK : Prop := SpecOK Try.prog 21 rBe.sp
noncomputable def rBe.body : Code := bodyOf Try.f21
noncomputable def rBe.rs : List ResultVar := Try.f21.results.toList
def rBe.live : List (Nat × Live) := [(3, ⟨[(1, .plain), (5, .arr 43 TStatus), (8, .sl TStatus), (9, .plain), (10, .plain)], []⟩)]
noncomputable def rBe.specs  : List (Nat × (List Bool × ISpec)) := [(32, ([], copyOne.sp))]
noncomputable def rBe.ospecs  : List (Nat × OS) := []
noncomputable def rBe.cfg  : Cfg := ⟨lkp tab, lkp (rBe.specs ), lkp rBe.live, ⟨lkp (rBe.ospecs ), [], none, false⟩⟩
noncomputable def rBe.l1  (m : Nat) (x0 : Int) (x1 : List (El TStatus)) (x2 : Int) (x3 : Int) (x4 : List (El TStatus)) : R := run (rBe.cfg ) 25 rBe.rs m ((todoR 3 rBe.body []).getD []) ⟨ofList (.c .junk) [(1, (.c (.v (.int .i64 x0)))), (5, (.c (.sref 766))), (8, (.c (.sl TStatus x1))), (9, (.c (.v (.int .i64 x2)))), (10, (.c (.v (.int .i64 x3))))], ofList none [(766, some (.arr 43 TStatus x4 false))], ofList false [(766, true)]⟩
noncomputable def rBe.go  (m : Nat) (x0 : (List (El TStatus))) (x1 : Int) : R := run (rBe.cfg ) 25 rBe.rs m [.code rBe.body] (enter (ivA rBe.ps (x0, x1, ())))
theorem rBe.start  (m : Nat) (x0 : (List (El TStatus))) (x1 : Int) : rBe.go  (m + 1) x0 x1 =
  rBe.l1  m x1 x0 ((List.length x0) : Int) (0 : Int) ([] : List (El TStatus)) := by kernel_rfl
theorem rBe.s1  (m : Nat) (x0 : Int) (x1 : List (El TStatus)) (x2 : Int) (x3 : Int) (x4 : List (El TStatus)) : rBe.l1  (m + 1) x0 x1 x2 x3 x4 =
  cond (decide (x3 < x2)) (
   test (decide ((0 : Int) ≤ x3)) (
    test (decide (x3 < ((List.length x1) : Int))) (
     cond (decide ((((((((((rdEl TStatus x1 (Int.toNat x3))).2).2).2).2).2).2).2).2 < x0)) (
      test (copyOne.pre (((rdEl TStatus x1 (Int.toNat x3))), Unit.unit)) (
       test (decide (((List.length x4) + (List.length (((rdEl TStatus x1 (Int.toNat x3))) :: ([] : List (El TStatus))))) ≤ (lim 200))) (
        rBe.l1  m x0 x1 x2 (IntKind.i64.wrap (x3 + (1 : Int))) (x4 ++ (((rdEl TStatus x1 (Int.toNat x3))) :: ([] : List (El TStatus))))))) (
      rBe.l1  m x0 x1 x2 (IntKind.i64.wrap (x3 + (1 : Int))) x4)))) (
   some ((.c (.sl TStatus x4)), [])) := by kernel_rfl
theorem rBe.run_eq  (m : Nat) (x0 : (List (El TStatus))) (x1 : Int) : run (rBe.cfg ) Try.f21.ntmps Try.f21.results.toList m [.code (bodyOf Try.f21)] (enter (ivA rBe.ps (x0, x1, ()))) = rBe.go  m x0 x1 := by kernel_rfl
theorem rBe.ret  (hs : SpecsOK Try.prog (rBe.specs ))  (x0 : (List (El TStatus))) (x1 : Int) {m : Nat} {r : IV} (h : rBe.go  m x0 x1 = some (r, [])) : VE.Returns Try.prog 21 (ivA rBe.ps (x0, x1, ())) r :=
  returns_of_run (cfg := rBe.cfg ) (cfgOK_of mixed tab_ok hs .nil) rfl Try.func21 (body_some (by kernel_rfl)) (Nat.le_of_ble_eq_true (by kernel_rfl)) ((rBe.run_eq  m x0 x1).trans h)
abbrev rBe.Law : Prop := ∀ (x0 : (List (El TStatus))) (x1 : Int), rBe.pre (x0, x1, ()) = true → VE.Returns Try.prog 21 (ivA rBe.ps (x0, x1, ())) (rBe.res (x0, x1, ()))
theorem rBe.mkR (H : ∀ (x0 : (List (El TStatus))) (x1 : Int), rBe.pre (x0, x1, ()) = true → VE.Returns Try.prog 21 (ivA rBe.ps (x0, x1, ())) (rBe.res (x0, x1, ()))) : SpecOK Try.prog 21 rBe.sp :=
  specOf_ret Try.func21 (by kernel_rfl) (by kernel_rfl) fun (x : (List (El TStatus)) × Int × Unit) hx => H (x.1) (x.2.1) hx
theorem rBe.mk  (hs : SpecsOK Try.prog (rBe.specs ))  (H : ∀ (x0 : (List (El TStatus))) (x1 : Int), rBe.pre (x0, x1, ()) = true → ∃ m, rBe.go  m x0 x1 = some (rBe.res (x0, x1, ()), [])) : SpecOK Try.prog 21 rBe.sp :=
  rBe.mkR fun x0 x1 hx => (H x0 x1 hx).elim fun _ hm => rBe.ret  hs  x0 x1 hm

/-! ### triage/triagelaw17.awake -/
abbrev awake.ps : List AK := []
def awake.pre : ElA awake.ps → Bool := fun (x : Unit) => true
def awake.res : ElA awake.ps → IV := fun (x : Unit) => (vb true) 
def awake.sp : ISpec := spOf awake.ps awake.pre awake.res
abbrev awake.OK : Prop := SpecOK Try.prog 10 awake.sp
noncomputable def awake.body : Code := bodyOf Try.f10
noncomputable def awake.rs : List ResultVar := Try.f10.results.toList
def awake.live : List (Nat × Live) := []
noncomputable def awake.specs  : List (Nat × (List Bool × ISpec)) := [(26, ([], newR.sp)), (12, ([], fOf.sp)), (14, ([], fGr.sp)), (16, ([], fFr.sp)), (18, ([], fWo.sp)), (20, ([], fBe.sp))]
noncomputable def awake.ospecs  : List (Nat × OS) := []
noncomputable def awake.cfg  : Cfg := ⟨lkp tab, lkp (awake.specs ), lkp awake.live, ⟨lkp (awake.ospecs ), [], none, false⟩⟩
noncomputable def awake.go  (m : Nat)  : R := run (awake.cfg ) 41 awake.rs m [.code awake.body] (enter (ivA awake.ps ()))
theorem awake.start  (m : Nat)  : awake.go  (m + 1)  =
  some ((.c (.v (.bool (((List.length (List.filter (pBe (3 : Int)) (((newB ((1 : Int), ((⟨#[97]⟩ : ByteArray), ((0 : Int), ((⟨#[]⟩ : ByteArray), ((1 : Int), ([] : List (El TPair))))))) (0 : Int))) :: ((((newB ((2 : Int), ((⟨#[98]⟩ : ByteArray), ((1 : Int), ((⟨#[]⟩ : ByteArray), ((1 : Int), ([] : List (El TPair))))))) (0 : Int))).1, ((((newB ((2 : Int), ((⟨#[98]⟩ : ByteArray), ((1 : Int), ((⟨#[]⟩ : ByteArray), ((1 : Int), ([] : List (El TPair))))))) (0 : Int))).2).1, (((((newB ((2 : Int), ((⟨#[98]⟩ : ByteArray), ((1 : Int), ((⟨#[]⟩ : ByteArray), ((1 : Int), ([] : List (El TPair))))))) (0 : Int))).2).2).1, ((((((newB ((2 : Int), ((⟨#[98]⟩ : ByteArray), ((1 : Int), ((⟨#[]⟩ : ByteArray), ((1 : Int), ([] : List (El TPair))))))) (0 : Int))).2).2).2).1, (((((((newB ((2 : Int), ((⟨#[98]⟩ : ByteArray), ((1 : Int), ((⟨#[]⟩ : ByteArray), ((1 : Int), ([] : List (El TPair))))))) (0 : Int))).2).2).2).2).1, ((((((((newB ((2 : Int), ((⟨#[98]⟩ : ByteArray), ((1 : Int), ((⟨#[]⟩ : ByteArray), ((1 : Int), ([] : List (El TPair))))))) (0 : Int))).2).2).2).2).2).1, (((((((((newB ((2 : Int), ((⟨#[98]⟩ : ByteArray), ((1 : Int), ((⟨#[]⟩ : ByteArray), ((1 : Int), ([] : List (El TPair))))))) (0 : Int))).2).2).2).2).2).2).1, ((((((((((newB ((2 : Int), ((⟨#[98]⟩ : ByteArray), ((1 : Int), ((⟨#[]⟩ : ByteArray), ((1 : Int), ([] : List (El TPair))))))) (0 : Int))).2).2).2).2).2).2).2).1, (3 : Int))))))))) :: ([] : List (El TStatus)))))) : Int) == (1 : Int))))), []) := by kernel_rfl
theorem awake.run_eq  (m : Nat)  : run (awake.cfg ) Try.f10.ntmps Try.f10.results.toList m [.code (bodyOf Try.f10)] (enter (ivA awake.ps ())) = awake.go  m  := by kernel_rfl
theorem awake.ret  (hs : SpecsOK Try.prog (awake.specs ))   {m : Nat} {r : IV} (h : awake.go  m  = some (r, [])) : VE.Returns Try.prog 10 (ivA awake.ps ()) r :=
  returns_of_run (cfg := awake.cfg ) (cfgOK_of mixed tab_ok hs .nil) rfl Try.func10 (body_some (by kernel_rfl)) (Nat.le_of_ble_eq_true (by kernel_rfl)) ((awake.run_eq  m ).trans h)
abbrev awake.Law : Prop := ∀ (_ : Unit), awake.pre () = true → VE.Returns Try.prog 10 (ivA awake.ps ()) (awake.res ())
theorem awake.mkR (H : ∀ (_ : Unit), awake.pre () = true → VE.Returns Try.prog 10 (ivA awake.ps ()) (awake.res ())) : SpecOK Try.prog 10 awake.sp :=
  specOf_ret Try.func10 (by kernel_rfl) (by kernel_rfl) fun (x : Unit) hx => H () hx
theorem awake.mk  (hs : SpecsOK Try.prog (awake.specs ))  (H : ∀ (_ : Unit), awake.pre () = true → ∃ m, awake.go  m  = some (awake.res (), [])) : SpecOK Try.prog 10 awake.sp :=
  awake.mkR fun _ hx => (H () hx).elim fun _ hm => awake.ret  hs   hm

/-! ### triage/triagelaw17.FitForms -/
abbrev lForms.ps : List AK := [.d false (.sl TStatus), .d false (.sl TPair), .d false .bool, .d false (.int .i64), .d false (.int .i64), .d false (.sl (.int .i64))]
def lForms.pre : ElA lForms.ps → Bool := fun (x : (List (El TStatus)) × (List (El TPair)) × Bool × Int × Int × (List Int) × Unit) => fits (.sl TStatus) (x.1) && (fits (.sl TPair) (x.2.1) && (fits .bool (x.2.2.1) && (fits (.int .i64) (x.2.2.2.1) && (fits (.int .i64) (x.2.2.2.2.1) && (fits (.sl (.int .i64)) (x.2.2.2.2.2.1) && (true))))))
def lForms.res : ElA lForms.ps → IV := fun (x : (List (El TStatus)) × (List (El TPair)) × Bool × Int × Int × (List Int) × Unit) => (fun _ _ _ _ _ _ => vb true) x.1 x.2.1 x.2.2.1 x.2.2.2.1 x.2.2.2.2.1 x.2.2.2.2.2.1
def lForms.sp : ISpec := spOf lForms.ps lForms.pre lForms.res
abbrev lForms.OK : Prop := SpecOK Try.prog 3 lForms.sp
noncomputable def lForms.body : Code := bodyOf Try.f3
noncomputable def lForms.rs : List ResultVar := Try.f3.results.toList
def lForms.live : List (Nat × Live) := []
noncomputable def lForms.specs  : List (Nat × (List Bool × ISpec)) := [(8, ([], lightS16.sp)), (9, ([], light.sp)), (10, ([], awake.sp)), (12, ([], fOf.sp)), (14, ([], fGr.sp)), (16, ([], fFr.sp)), (18, ([], fWo.sp)), (20, ([], fBe.sp)), (13, ([], rOf.sp)), (15, ([], rGr.sp)), (17, ([], rFr.sp)), (19, ([], rWo.sp)), (21, ([], rBe.sp)), (11, ([], sameSR.sp))]
noncomputable def lForms.ospecs  : List (Nat × OS) := []
noncomputable def lForms.cfg  : Cfg := ⟨lkp tab, lkp (lForms.specs ), lkp lForms.live, ⟨lkp (lForms.ospecs ), [], none, false⟩⟩
noncomputable def lForms.go  (m : Nat) (x0 : (List (El TStatus))) (x1 : (List (El TPair))) (x2 : Bool) (x3 : Int) (x4 : Int) (x5 : (List Int)) : R := run (lForms.cfg ) 72 lForms.rs m [.code lForms.body] (enter (ivA lForms.ps (x0, x1, x2, x3, x4, x5, ())))
theorem lForms.start  (m : Nat) (x0 : (List (El TStatus))) (x1 : (List (El TPair))) (x2 : Bool) (x3 : Int) (x4 : Int) (x5 : (List Int)) : lForms.go  (m + 1) x0 x1 x2 x3 x4 x5 =
  test (lightS16.pre (x0, Unit.unit)) (
   test (light.pre (((0 : Int), ((⟨#[]⟩ : ByteArray), ((0 : Int), ((⟨#[]⟩ : ByteArray), ((0 : Int), x1))))), Unit.unit)) (
    cond (decide ((IntKind.i64.wrap ((lightL x0) + (lightI ((0 : Int), ((⟨#[]⟩ : ByteArray), ((0 : Int), ((⟨#[]⟩ : ByteArray), ((0 : Int), x1)))))))) > (0 : Int))) (
     some ((.c (.v (.bool true))), [])) (
     cond (decide (((List.length x5) : Int) > (100 : Int))) (
      some ((.c (.v (.bool true))), [])) (
      test (fOf.pre (x0, (x1, (x2, Unit.unit)))) (
       test (rOf.pre (x0, (x1, (x2, Unit.unit)))) (
        test (sameSR.pre ((ofL x0 x1 x2), ((ofL x0 x1 x2), Unit.unit))) (
         cond (sameSB (ofL x0 x1 x2) (ofL x0 x1 x2)) (
          test (fGr.pre (x0, (x3, Unit.unit))) (
           test (rGr.pre (x0, (x3, Unit.unit))) (
            test (sameSR.pre ((List.filter (pGr x3) x0), ((List.filter (pGr x3) x0), Unit.unit))) (
             cond (sameSB (List.filter (pGr x3) x0) (List.filter (pGr x3) x0)) (
              test (fFr.pre (x0, Unit.unit)) (
               test (rFr.pre (x0, Unit.unit)) (
                test (sameSR.pre ((List.filter freeB x0), ((List.filter freeB x0), Unit.unit))) (
                 cond (sameSB (List.filter freeB x0) (List.filter freeB x0)) (
                  test (fWo.pre (x0, (x5, Unit.unit))) (
                   test (rWo.pre (x0, (x5, Unit.unit))) (
                    test (sameSR.pre ((List.filter (pWo x5) x0), ((List.filter (pWo x5) x0), Unit.unit))) (
                     cond (sameSB (List.filter (pWo x5) x0) (List.filter (pWo x5) x0)) (
                      test (fBe.pre (x0, (x4, Unit.unit))) (
                       test (rBe.pre (x0, (x4, Unit.unit))) (
                        test (sameSR.pre ((List.filter (pBe x4) x0), ((List.filter (pBe x4) x0), Unit.unit))) (
                         cond (sameSB (List.filter (pBe x4) x0) (List.filter (pBe x4) x0)) (
                          some ((.c (.v (.bool true))), [])) (
                          some ((.c (.v (.bool false))), [])))))) (
                      some ((.c (.v (.bool false))), [])))))) (
                  some ((.c (.v (.bool false))), [])))))) (
              some ((.c (.v (.bool false))), [])))))) (
          some ((.c (.v (.bool false))), []))))))))) := by kernel_rfl
theorem lForms.run_eq  (m : Nat) (x0 : (List (El TStatus))) (x1 : (List (El TPair))) (x2 : Bool) (x3 : Int) (x4 : Int) (x5 : (List Int)) : run (lForms.cfg ) Try.f3.ntmps Try.f3.results.toList m [.code (bodyOf Try.f3)] (enter (ivA lForms.ps (x0, x1, x2, x3, x4, x5, ()))) = lForms.go  m x0 x1 x2 x3 x4 x5 := by kernel_rfl
theorem lForms.ret  (hs : SpecsOK Try.prog (lForms.specs ))  (x0 : (List (El TStatus))) (x1 : (List (El TPair))) (x2 : Bool) (x3 : Int) (x4 : Int) (x5 : (List Int)) {m : Nat} {r : IV} (h : lForms.go  m x0 x1 x2 x3 x4 x5 = some (r, [])) : VE.Returns Try.prog 3 (ivA lForms.ps (x0, x1, x2, x3, x4, x5, ())) r :=
  returns_of_run (cfg := lForms.cfg ) (cfgOK_of mixed tab_ok hs .nil) rfl Try.func3 (body_some (by kernel_rfl)) (Nat.le_of_ble_eq_true (by kernel_rfl)) ((lForms.run_eq  m x0 x1 x2 x3 x4 x5).trans h)
abbrev lForms.Law : Prop := ∀ (x0 : (List (El TStatus))) (x1 : (List (El TPair))) (x2 : Bool) (x3 : Int) (x4 : Int) (x5 : (List Int)), lForms.pre (x0, x1, x2, x3, x4, x5, ()) = true → VE.Returns Try.prog 3 (ivA lForms.ps (x0, x1, x2, x3, x4, x5, ())) (lForms.res (x0, x1, x2, x3, x4, x5, ()))
theorem lForms.mkR (H : ∀ (x0 : (List (El TStatus))) (x1 : (List (El TPair))) (x2 : Bool) (x3 : Int) (x4 : Int) (x5 : (List Int)), lForms.pre (x0, x1, x2, x3, x4, x5, ()) = true → VE.Returns Try.prog 3 (ivA lForms.ps (x0, x1, x2, x3, x4, x5, ())) (lForms.res (x0, x1, x2, x3, x4, x5, ()))) : SpecOK Try.prog 3 lForms.sp :=
  specOf_ret Try.func3 (by kernel_rfl) (by kernel_rfl) fun (x : (List (El TStatus)) × (List (El TPair)) × Bool × Int × Int × (List Int) × Unit) hx => H (x.1) (x.2.1) (x.2.2.1) (x.2.2.2.1) (x.2.2.2.2.1) (x.2.2.2.2.2.1) hx
theorem lForms.mk  (hs : SpecsOK Try.prog (lForms.specs ))  (H : ∀ (x0 : (List (El TStatus))) (x1 : (List (El TPair))) (x2 : Bool) (x3 : Int) (x4 : Int) (x5 : (List Int)), lForms.pre (x0, x1, x2, x3, x4, x5, ()) = true → ∃ m, lForms.go  m x0 x1 x2 x3 x4 x5 = some (lForms.res (x0, x1, x2, x3, x4, x5, ()), [])) : SpecOK Try.prog 3 lForms.sp :=
  lForms.mkR fun x0 x1 x2 x3 x4 x5 hx => (H x0 x1 x2 x3 x4 x5 hx).elim fun _ hm => lForms.ret  hs  x0 x1 x2 x3 x4 x5 hm

/-! ### triage/triagelaw17.FitPasses -/
abbrev lPasses.ps : List AK := [.d false (.sl TStatus), .d false (.int .i64), .d false (.int .i64), .d false (.sl (.int .i64))]
def lPasses.pre : ElA lPasses.ps → Bool := fun (x : (List (El TStatus)) × Int × Int × (List Int) × Unit) => fits (.sl TStatus) (x.1) && (fits (.int .i64) (x.2.1) && (fits (.int .i64) (x.2.2.1) && (fits (.sl (.int .i64)) (x.2.2.2.1) && (true))))
def lPasses.res : ElA lPasses.ps → IV := fun (x : (List (El TStatus)) × Int × Int × (List Int) × Unit) => (fun _ _ _ _ => vb true) x.1 x.2.1 x.2.2.1 x.2.2.2.1
def lPasses.sp : ISpec := spOf lPasses.ps lPasses.pre lPasses.res
abbrev lPasses.OK : Prop := SpecOK Try.prog 4 lPasses.sp
noncomputable def lPasses.body : Code := bodyOf Try.f4
noncomputable def lPasses.rs : List ResultVar := Try.f4.results.toList
def lPasses.live : List (Nat × Live) := [(13, ⟨[(1, .plain), (2, .plain), (3, .sl (.int .i64)), (9, .sl TStatus), (11, .plain), (13, .plain), (14, .plain), (46, .sl TStatus), (47, .plain), (48, .plain), (67, .sl (.int .i64)), (68, .plain), (69, .plain)], [(5125, [])]⟩), (9, ⟨[(1, .plain), (2, .plain), (3, .sl (.int .i64)), (9, .sl TStatus), (11, .plain), (46, .sl TStatus), (47, .plain), (48, .plain)], []⟩)]
noncomputable def lPasses.specs  : List (Nat × (List Bool × ISpec)) := [(8, ([], lightS16.sp)), (10, ([], awake.sp)), (14, ([], fGr.sp)), (16, ([], fFr.sp)), (18, ([], fWo.sp)), (20, ([], fBe.sp)), (11, ([], sameSR.sp)), (22, ([], freeR.sp)), (23, ([], sameOR.sp))]
noncomputable def lPasses.ospecs  : List (Nat × OS) := []
noncomputable def lPasses.cfg  : Cfg := ⟨lkp tab, lkp (lPasses.specs ), lkp lPasses.live, ⟨lkp (lPasses.ospecs ), [], none, false⟩⟩
noncomputable def lPasses.l1  (m : Nat) (x0 : Int) (x1 : Int) (x2 : List Int) (x3 : List (El TStatus)) (x4 : Int) (x5 : List (El TStatus)) (x6 : Int) (x7 : Int) : R := run (lPasses.cfg ) 106 lPasses.rs m ((todoR 9 lPasses.body []).getD []) ⟨ofList (.c .junk) [(1, (.c (.v (.int .i64 x0)))), (2, (.c (.v (.int .i64 x1)))), (3, (.c (.sl (.int .i64) x2))), (9, (.c (.sl TStatus x3))), (11, (.c (.v (.int .i64 x4)))), (46, (.c (.sl TStatus x5))), (47, (.c (.v (.int .i64 x6)))), (48, (.c (.v (.int .i64 x7))))], ofList none [], ofList false []⟩
noncomputable def lPasses.l2  (m : Nat) (x0 : Int) (x1 : Int) (x2 : List Int) (x3 : List (El TStatus)) (x4 : Int) (x5 : Bool) (x6 : List (El TStatus)) (x7 : Int) (x8 : Int) (x9 : List Int) (x10 : Int) (x11 : Int) (x12 : Int) (x13 : ByteArray) (x14 : Int) (x15 : ByteArray) (x16 : Int) (x17 : List (El TPair)) (x18 : Bool) (x19 : Int) (x20 : Int) (x21 : Int) (x22 : Int) (x23 : Int) (x24 : Int) (x25 : Bool) (x26 : Int) (x27 : Int) (x28 : Int) (x29 : Bool) (x30 : Int) (x31 : Int) (x32 : Int) : R := run (lPasses.cfg ) 106 lPasses.rs m ((todoR 13 lPasses.body []).getD []) ⟨ofList (.c .junk) [(1, (.c (.v (.int .i64 x0)))), (2, (.c (.v (.int .i64 x1)))), (3, (.c (.sl (.int .i64) x2))), (9, (.c (.sl TStatus x3))), (11, (.c (.v (.int .i64 x4)))), (13, (.c (.ref 5125 0))), (14, (.c (.v (.bool x5)))), (46, (.c (.sl TStatus x6))), (47, (.c (.v (.int .i64 x7)))), (48, (.c (.v (.int .i64 x8)))), (67, (.c (.sl (.int .i64) x9))), (68, (.c (.v (.int .i64 x10)))), (69, (.c (.v (.int .i64 x11))))], ofList none [(5125, some (.cells 43 [(.v (.int .i64 x12)), (.v (.string x13)), (.v (.int .i64 x14)), (.v (.string x15)), (.v (.int .i64 x16)), (.sl TPair x17), (.v (.bool x18)), (.v (.int .i64 x19)), (.v (.int .i64 x20)), (.v (.int .i64 x21)), (.v (.int .i64 x22)), (.v (.int .i64 x23)), (.v (.int .i64 x24)), (.v (.bool x25)), (.v (.int .i64 x26)), (.v (.int .i64 x27)), (.v (.int .i64 x28)), (.v (.bool x29)), (.v (.int .i64 x30)), (.v (.int .i64 x31)), (.v (.int .i64 x32))]))], ofList false [(5125, true)]⟩
noncomputable def lPasses.go  (m : Nat) (x0 : (List (El TStatus))) (x1 : Int) (x2 : Int) (x3 : (List Int)) : R := run (lPasses.cfg ) 106 lPasses.rs m [.code lPasses.body] (enter (ivA lPasses.ps (x0, x1, x2, x3, ())))
theorem lPasses.start  (m : Nat) (x0 : (List (El TStatus))) (x1 : Int) (x2 : Int) (x3 : (List Int)) : lPasses.go  (m + 1) x0 x1 x2 x3 =
  test (lightS16.pre (x0, Unit.unit)) (
   cond (decide ((lightL x0) > (0 : Int))) (
    some ((.c (.v (.bool true))), [])) (
    cond (decide (((List.length x3) : Int) > (100 : Int))) (
     some ((.c (.v (.bool true))), [])) (
     test (fGr.pre (x0, (x1, Unit.unit))) (
      test (fFr.pre ((List.filter (pGr x1) x0), Unit.unit)) (
       test (fWo.pre ((List.filter freeB (List.filter (pGr x1) x0)), (x3, Unit.unit))) (
        test (fBe.pre ((List.filter (pWo x3) (List.filter freeB (List.filter (pGr x1) x0))), (x2, Unit.unit))) (
         test (fWo.pre (x0, (x3, Unit.unit))) (
          test (fBe.pre ((List.filter (pWo x3) x0), (x2, Unit.unit))) (
           test (fFr.pre ((List.filter (pBe x2) (List.filter (pWo x3) x0)), Unit.unit)) (
            test (fGr.pre ((List.filter freeB (List.filter (pBe x2) (List.filter (pWo x3) x0))), (x1, Unit.unit))) (
             test (sameSR.pre ((List.filter (pBe x2) (List.filter (pWo x3) (List.filter freeB (List.filter (pGr x1) x0)))), ((List.filter (pGr x1) (List.filter freeB (List.filter (pBe x2) (List.filter (pWo x3) x0)))), Unit.unit))) (
              cond (Bool.not (sameSB (List.filter (pBe x2) (List.filter (pWo x3) (List.filter freeB (List.filter (pGr x1) x0)))) (List.filter (pGr x1) (List.filter freeB (List.filter (pBe x2) (List.filter (pWo x3) x0)))))) (
               some ((.c (.v (.bool false))), [])) (
               lPasses.l1  m x1 x2 x3 (List.filter (pBe x2) (List.filter (pWo x3) (List.filter freeB (List.filter (pGr x1) x0)))) (0 : Int) x0 ((List.length x0) : Int) (0 : Int)))))))))))))) := by kernel_rfl
theorem lPasses.s1  (m : Nat) (x0 : Int) (x1 : Int) (x2 : List Int) (x3 : List (El TStatus)) (x4 : Int) (x5 : List (El TStatus)) (x6 : Int) (x7 : Int) : lPasses.l1  (m + 1) x0 x1 x2 x3 x4 x5 x6 x7 =
  cond (decide (x7 < x6)) (
   test (decide ((0 : Int) ≤ x7)) (
    test (decide (x7 < ((List.length x5) : Int))) (
     cond ((((((rdEl TStatus x5 (Int.toNat x7))).1).2).2).1 == x0) (
      test (freeR.pre (((rdEl TStatus x5 (Int.toNat x7))), Unit.unit)) (
       cond (freeB ((rdEl TStatus x5 (Int.toNat x7)))) (
        lPasses.l2  m x0 x1 x2 x3 x4 (decide ((((((((((rdEl TStatus x5 (Int.toNat x7))).2).2).2).2).2).2).2).2 < x1)) x5 x6 x7 x2 ((List.length x2) : Int) (0 : Int) (((rdEl TStatus x5 (Int.toNat x7))).1).1 ((((rdEl TStatus x5 (Int.toNat x7))).1).2).1 (((((rdEl TStatus x5 (Int.toNat x7))).1).2).2).1 ((((((rdEl TStatus x5 (Int.toNat x7))).1).2).2).2).1 (((((((rdEl TStatus x5 (Int.toNat x7))).1).2).2).2).2).1 (((((((rdEl TStatus x5 (Int.toNat x7))).1).2).2).2).2).2 ((((rdEl TStatus x5 (Int.toNat x7))).2).1).1 (((((rdEl TStatus x5 (Int.toNat x7))).2).1).2).1 ((((((rdEl TStatus x5 (Int.toNat x7))).2).1).2).2).1 ((((((rdEl TStatus x5 (Int.toNat x7))).2).1).2).2).2 ((((rdEl TStatus x5 (Int.toNat x7))).2).2).1 ((((((rdEl TStatus x5 (Int.toNat x7))).2).2).2).1).1 ((((((rdEl TStatus x5 (Int.toNat x7))).2).2).2).1).2 (((((((rdEl TStatus x5 (Int.toNat x7))).2).2).2).2).1).1 ((((((((rdEl TStatus x5 (Int.toNat x7))).2).2).2).2).1).2).1 (((((((((rdEl TStatus x5 (Int.toNat x7))).2).2).2).2).1).2).2).1 (((((((((rdEl TStatus x5 (Int.toNat x7))).2).2).2).2).1).2).2).2 (((((((rdEl TStatus x5 (Int.toNat x7))).2).2).2).2).2).1 ((((((((rdEl TStatus x5 (Int.toNat x7))).2).2).2).2).2).2).1 (((((((((rdEl TStatus x5 (Int.toNat x7))).2).2).2).2).2).2).2).1 (((((((((rdEl TStatus x5 (Int.toNat x7))).2).2).2).2).2).2).2).2) (
        lPasses.l2  m x0 x1 x2 x3 x4 false x5 x6 x7 x2 ((List.length x2) : Int) (0 : Int) (((rdEl TStatus x5 (Int.toNat x7))).1).1 ((((rdEl TStatus x5 (Int.toNat x7))).1).2).1 (((((rdEl TStatus x5 (Int.toNat x7))).1).2).2).1 ((((((rdEl TStatus x5 (Int.toNat x7))).1).2).2).2).1 (((((((rdEl TStatus x5 (Int.toNat x7))).1).2).2).2).2).1 (((((((rdEl TStatus x5 (Int.toNat x7))).1).2).2).2).2).2 ((((rdEl TStatus x5 (Int.toNat x7))).2).1).1 (((((rdEl TStatus x5 (Int.toNat x7))).2).1).2).1 ((((((rdEl TStatus x5 (Int.toNat x7))).2).1).2).2).1 ((((((rdEl TStatus x5 (Int.toNat x7))).2).1).2).2).2 ((((rdEl TStatus x5 (Int.toNat x7))).2).2).1 ((((((rdEl TStatus x5 (Int.toNat x7))).2).2).2).1).1 ((((((rdEl TStatus x5 (Int.toNat x7))).2).2).2).1).2 (((((((rdEl TStatus x5 (Int.toNat x7))).2).2).2).2).1).1 ((((((((rdEl TStatus x5 (Int.toNat x7))).2).2).2).2).1).2).1 (((((((((rdEl TStatus x5 (Int.toNat x7))).2).2).2).2).1).2).2).1 (((((((((rdEl TStatus x5 (Int.toNat x7))).2).2).2).2).1).2).2).2 (((((((rdEl TStatus x5 (Int.toNat x7))).2).2).2).2).2).1 ((((((((rdEl TStatus x5 (Int.toNat x7))).2).2).2).2).2).2).1 (((((((((rdEl TStatus x5 (Int.toNat x7))).2).2).2).2).2).2).2).1 (((((((((rdEl TStatus x5 (Int.toNat x7))).2).2).2).2).2).2).2).2))) (
      lPasses.l2  m x0 x1 x2 x3 x4 false x5 x6 x7 x2 ((List.length x2) : Int) (0 : Int) (((rdEl TStatus x5 (Int.toNat x7))).1).1 ((((rdEl TStatus x5 (Int.toNat x7))).1).2).1 (((((rdEl TStatus x5 (Int.toNat x7))).1).2).2).1 ((((((rdEl TStatus x5 (Int.toNat x7))).1).2).2).2).1 (((((((rdEl TStatus x5 (Int.toNat x7))).1).2).2).2).2).1 (((((((rdEl TStatus x5 (Int.toNat x7))).1).2).2).2).2).2 ((((rdEl TStatus x5 (Int.toNat x7))).2).1).1 (((((rdEl TStatus x5 (Int.toNat x7))).2).1).2).1 ((((((rdEl TStatus x5 (Int.toNat x7))).2).1).2).2).1 ((((((rdEl TStatus x5 (Int.toNat x7))).2).1).2).2).2 ((((rdEl TStatus x5 (Int.toNat x7))).2).2).1 ((((((rdEl TStatus x5 (Int.toNat x7))).2).2).2).1).1 ((((((rdEl TStatus x5 (Int.toNat x7))).2).2).2).1).2 (((((((rdEl TStatus x5 (Int.toNat x7))).2).2).2).2).1).1 ((((((((rdEl TStatus x5 (Int.toNat x7))).2).2).2).2).1).2).1 (((((((((rdEl TStatus x5 (Int.toNat x7))).2).2).2).2).1).2).2).1 (((((((((rdEl TStatus x5 (Int.toNat x7))).2).2).2).2).1).2).2).2 (((((((rdEl TStatus x5 (Int.toNat x7))).2).2).2).2).2).1 ((((((((rdEl TStatus x5 (Int.toNat x7))).2).2).2).2).2).2).1 (((((((((rdEl TStatus x5 (Int.toNat x7))).2).2).2).2).2).2).2).1 (((((((((rdEl TStatus x5 (Int.toNat x7))).2).2).2).2).2).2).2).2)))) (
   cond (x4 == ((List.length x3) : Int)) (
    some ((.c (.v (.bool true))), [])) (
    some ((.c (.v (.bool false))), []))) := by kernel_rfl
theorem lPasses.s2  (m : Nat) (x0 : Int) (x1 : Int) (x2 : List Int) (x3 : List (El TStatus)) (x4 : Int) (x5 : Bool) (x6 : List (El TStatus)) (x7 : Int) (x8 : Int) (x9 : List Int) (x10 : Int) (x11 : Int) (x12 : Int) (x13 : ByteArray) (x14 : Int) (x15 : ByteArray) (x16 : Int) (x17 : List (El TPair)) (x18 : Bool) (x19 : Int) (x20 : Int) (x21 : Int) (x22 : Int) (x23 : Int) (x24 : Int) (x25 : Bool) (x26 : Int) (x27 : Int) (x28 : Int) (x29 : Bool) (x30 : Int) (x31 : Int) (x32 : Int) : lPasses.l2  (m + 1) x0 x1 x2 x3 x4 x5 x6 x7 x8 x9 x10 x11 x12 x13 x14 x15 x16 x17 x18 x19 x20 x21 x22 x23 x24 x25 x26 x27 x28 x29 x30 x31 x32 =
  cond (decide (x11 < x10)) (
   test (decide ((0 : Int) ≤ x11)) (
    test (decide (x11 < ((List.length x9) : Int))) (
     cond x5 (
      lPasses.l2  m x0 x1 x2 x3 x4 (bne (rdEl (.int .i64) x9 (Int.toNat x11)) x12) x6 x7 x8 x9 x10 (IntKind.i64.wrap (x11 + (1 : Int))) x12 x13 x14 x15 x16 x17 x18 x19 x20 x21 x22 x23 x24 x25 x26 x27 x28 x29 x30 x31 x32) (
      lPasses.l2  m x0 x1 x2 x3 x4 false x6 x7 x8 x9 x10 (IntKind.i64.wrap (x11 + (1 : Int))) x12 x13 x14 x15 x16 x17 x18 x19 x20 x21 x22 x23 x24 x25 x26 x27 x28 x29 x30 x31 x32)))) (
   cond x5 (
    cond (decide (x4 ≥ ((List.length x3) : Int))) (
     some ((.c (.v (.bool false))), [])) (
     test (decide ((0 : Int) ≤ x4)) (
      test (decide (x4 < ((List.length x3) : Int))) (
       test (sameOR.pre (((rdEl TStatus x3 (Int.toNat x4))), (((x12, (x13, (x14, (x15, (x16, x17))))), ((x18, (x19, (x20, x21))), (x22, ((x23, x24), ((x25, (x26, (x27, x28))), (x29, (x30, (x31, x32)))))))), Unit.unit))) (
        cond (Bool.not (sameOB ((rdEl TStatus x3 (Int.toNat x4))) ((x12, (x13, (x14, (x15, (x16, x17))))), ((x18, (x19, (x20, x21))), (x22, ((x23, x24), ((x25, (x26, (x27, x28))), (x29, (x30, (x31, x32)))))))))) (
         some ((.c (.v (.bool false))), [])) (
         lPasses.l1  m x0 x1 x2 x3 (IntKind.i64.wrap (x4 + (1 : Int))) x6 x7 (IntKind.i64.wrap (x8 + (1 : Int))))))))) (
    lPasses.l1  m x0 x1 x2 x3 x4 x6 x7 (IntKind.i64.wrap (x8 + (1 : Int))))) := by kernel_rfl
theorem lPasses.run_eq  (m : Nat) (x0 : (List (El TStatus))) (x1 : Int) (x2 : Int) (x3 : (List Int)) : run (lPasses.cfg ) Try.f4.ntmps Try.f4.results.toList m [.code (bodyOf Try.f4)] (enter (ivA lPasses.ps (x0, x1, x2, x3, ()))) = lPasses.go  m x0 x1 x2 x3 := by kernel_rfl
theorem lPasses.ret  (hs : SpecsOK Try.prog (lPasses.specs ))  (x0 : (List (El TStatus))) (x1 : Int) (x2 : Int) (x3 : (List Int)) {m : Nat} {r : IV} (h : lPasses.go  m x0 x1 x2 x3 = some (r, [])) : VE.Returns Try.prog 4 (ivA lPasses.ps (x0, x1, x2, x3, ())) r :=
  returns_of_run (cfg := lPasses.cfg ) (cfgOK_of mixed tab_ok hs .nil) rfl Try.func4 (body_some (by kernel_rfl)) (Nat.le_of_ble_eq_true (by kernel_rfl)) ((lPasses.run_eq  m x0 x1 x2 x3).trans h)
abbrev lPasses.Law : Prop := ∀ (x0 : (List (El TStatus))) (x1 : Int) (x2 : Int) (x3 : (List Int)), lPasses.pre (x0, x1, x2, x3, ()) = true → VE.Returns Try.prog 4 (ivA lPasses.ps (x0, x1, x2, x3, ())) (lPasses.res (x0, x1, x2, x3, ()))
theorem lPasses.mkR (H : ∀ (x0 : (List (El TStatus))) (x1 : Int) (x2 : Int) (x3 : (List Int)), lPasses.pre (x0, x1, x2, x3, ()) = true → VE.Returns Try.prog 4 (ivA lPasses.ps (x0, x1, x2, x3, ())) (lPasses.res (x0, x1, x2, x3, ()))) : SpecOK Try.prog 4 lPasses.sp :=
  specOf_ret Try.func4 (by kernel_rfl) (by kernel_rfl) fun (x : (List (El TStatus)) × Int × Int × (List Int) × Unit) hx => H (x.1) (x.2.1) (x.2.2.1) (x.2.2.2.1) hx
theorem lPasses.mk  (hs : SpecsOK Try.prog (lPasses.specs ))  (H : ∀ (x0 : (List (El TStatus))) (x1 : Int) (x2 : Int) (x3 : (List Int)), lPasses.pre (x0, x1, x2, x3, ()) = true → ∃ m, lPasses.go  m x0 x1 x2 x3 = some (lPasses.res (x0, x1, x2, x3, ()), [])) : SpecOK Try.prog 4 lPasses.sp :=
  lPasses.mkR fun x0 x1 x2 x3 hx => (H x0 x1 x2 x3 hx).elim fun _ hm => lPasses.ret  hs  x0 x1 x2 x3 hm

/-! ### triage/triagelaw17.FitSubset -/
abbrev lSubset.ps : List AK := [.d false (.sl TStatus), .d false (.sl TPair), .d true TPair]
def lSubset.pre : ElA lSubset.ps → Bool := fun (x : (List (El TStatus)) × (List (El TPair)) × (El TPair) × Unit) => fits (.sl TStatus) (x.1) && (fits (.sl TPair) (x.2.1) && (fits TPair (x.2.2.1) && ((fun _ l _ => decide (List.length l ≤ 268435456)) x.1 x.2.1 x.2.2.1 && (true))))
def lSubset.res : ElA lSubset.ps → IV := fun (x : (List (El TStatus)) × (List (El TPair)) × (El TPair) × Unit) => (fun _ _ _ => vb true) x.1 x.2.1 x.2.2.1
def lSubset.sp : ISpec := spOf lSubset.ps lSubset.pre lSubset.res
abbrev lSubset.OK : Prop := SpecOK Try.prog 5 lSubset.sp
noncomputable def lSubset.body : Code := bodyOf Try.f5
noncomputable def lSubset.rs : List ResultVar := Try.f5.results.toList
def lSubset.live : List (Nat × Live) := [(6, ⟨[(0, .sl TStatus), (1, .sl TPair), (7, .sl TStatus), (8, .sl TStatus), (9, .sl TStatus), (39, .sl TStatus), (40, .plain), (41, .plain)], []⟩)]
noncomputable def lSubset.specs  : List (Nat × (List Bool × ISpec)) := [(8, ([], lightS16.sp)), (9, ([], light.sp)), (10, ([], awake.sp)), (12, ([], fOf.sp)), (11, ([], sameSR.sp)), (25, ([], membersR.sp)), (24, ([], hasR.sp))]
noncomputable def lSubset.ospecs  : List (Nat × OS) := []
noncomputable def lSubset.cfg  : Cfg := ⟨lkp tab, lkp (lSubset.specs ), lkp lSubset.live, ⟨lkp (lSubset.ospecs ), [], none, false⟩⟩
noncomputable def lSubset.l1  (m : Nat) (x0 : List (El TStatus)) (x1 : List (El TPair)) (x2 : List (El TStatus)) (x3 : List (El TStatus)) (x4 : List (El TStatus)) (x5 : List (El TStatus)) (x6 : Int) (x7 : Int) : R := run (lSubset.cfg ) 90 lSubset.rs m ((todoR 6 lSubset.body []).getD []) ⟨ofList (.c .junk) [(0, (.c (.sl TStatus x0))), (1, (.c (.sl TPair x1))), (7, (.c (.sl TStatus x2))), (8, (.c (.sl TStatus x3))), (9, (.c (.sl TStatus x4))), (39, (.c (.sl TStatus x5))), (40, (.c (.v (.int .i64 x6)))), (41, (.c (.v (.int .i64 x7))))], ofList none [], ofList false []⟩
noncomputable def lSubset.go  (m : Nat) (x0 : (List (El TStatus))) (x1 : (List (El TPair))) (x2 : (El TPair)) : R := run (lSubset.cfg ) 90 lSubset.rs m [.code lSubset.body] (enter (ivA lSubset.ps (x0, x1, x2, ())))
theorem lSubset.start  (m : Nat) (x0 : (List (El TStatus))) (x1 : (List (El TPair))) (x2 : (El TPair)) : lSubset.go  (m + 1) x0 x1 x2 =
  test (lightS16.pre (x0, Unit.unit)) (
   test (decide (((List.length ([] : List (El TPair))) + (List.length x1)) ≤ (lim 32))) (
    test (decide (((List.length (([] : List (El TPair)) ++ x1)) + (List.length (x2 :: ([] : List (El TPair))))) ≤ (lim 32))) (
     test (light.pre (((0 : Int), ((⟨#[]⟩ : ByteArray), ((0 : Int), ((⟨#[]⟩ : ByteArray), ((0 : Int), ((([] : List (El TPair)) ++ x1) ++ (x2 :: ([] : List (El TPair))))))))), Unit.unit)) (
      cond (decide ((IntKind.i64.wrap ((lightL x0) + (lightI ((0 : Int), ((⟨#[]⟩ : ByteArray), ((0 : Int), ((⟨#[]⟩ : ByteArray), ((0 : Int), ((([] : List (El TPair)) ++ x1) ++ (x2 :: ([] : List (El TPair)))))))))))) > (0 : Int))) (
       some ((.c (.v (.bool true))), [])) (
       test (fOf.pre (x0, (x1, (false, Unit.unit)))) (
        test (fOf.pre (x0, (x1, (true, Unit.unit)))) (
         test (decide (((List.length ([] : List (El TPair))) + (List.length x1)) ≤ (lim 32))) (
          test (decide (((List.length (([] : List (El TPair)) ++ x1)) + (List.length (x2 :: ([] : List (El TPair))))) ≤ (lim 32))) (
           test (fOf.pre (x0, (((([] : List (El TPair)) ++ x1) ++ (x2 :: ([] : List (El TPair)))), (false, Unit.unit)))) (
            lSubset.l1  m x0 x1 (ofL x0 x1 false) (ofL x0 x1 true) (ofL x0 ((([] : List (El TPair)) ++ x1) ++ (x2 :: ([] : List (El TPair)))) false) (ofL x0 x1 false) ((List.length (ofL x0 x1 false)) : Int) (0 : Int))))))))))) := by kernel_rfl
theorem lSubset.s1  (m : Nat) (x0 : List (El TStatus)) (x1 : List (El TPair)) (x2 : List (El TStatus)) (x3 : List (El TStatus)) (x4 : List (El TStatus)) (x5 : List (El TStatus)) (x6 : Int) (x7 : Int) : lSubset.l1  (m + 1) x0 x1 x2 x3 x4 x5 x6 x7 =
  cond (decide (x7 < x6)) (
   test (decide ((0 : Int) ≤ x7)) (
    test (decide (x7 < ((List.length x5) : Int))) (
     cond (((((((rdEl TStatus x5 (Int.toNat x7))).2).2).2).2).2).1 (
      some ((.c (.v (.bool false))), [])) (
      test (hasR.pre (((rdEl TStatus x5 (Int.toNat x7))).1, (x1, Unit.unit))) (
       cond (Bool.not (hasB ((rdEl TStatus x5 (Int.toNat x7))).1 x1)) (
        some ((.c (.v (.bool false))), [])) (
        lSubset.l1  m x0 x1 x2 x3 x4 x5 x6 (IntKind.i64.wrap (x7 + (1 : Int))))))))) (
   cond (((List.length x2) : Int) == (0 : Int)) (
    test (membersR.pre (x0, Unit.unit)) (
     test (sameSR.pre (x3, ((List.filter memB x0), Unit.unit))) (
      cond (sameSB x3 (List.filter memB x0)) (
       cond (((List.length x4) : Int) == (0 : Int)) (
        some ((.c (.v (.bool true))), [])) (
        some ((.c (.v (.bool false))), []))) (
       some ((.c (.v (.bool false))), []))))) (
    test (sameSR.pre (x2, (x3, Unit.unit))) (
     cond (sameSB x2 x3) (
      cond (decide (((List.length x4) : Int) ≤ ((List.length x2) : Int))) (
       test (fOf.pre (x0, (([] : List (El TPair)), (false, Unit.unit)))) (
        test (membersR.pre (x0, Unit.unit)) (
         test (sameSR.pre ((ofL x0 ([] : List (El TPair)) false), ((List.filter memB x0), Unit.unit))) (
          cond (sameSB (ofL x0 ([] : List (El TPair)) false) (List.filter memB x0)) (
           some ((.c (.v (.bool true))), [])) (
           some ((.c (.v (.bool false))), [])))))) (
       some ((.c (.v (.bool false))), []))) (
      some ((.c (.v (.bool false))), []))))) := by kernel_rfl
theorem lSubset.run_eq  (m : Nat) (x0 : (List (El TStatus))) (x1 : (List (El TPair))) (x2 : (El TPair)) : run (lSubset.cfg ) Try.f5.ntmps Try.f5.results.toList m [.code (bodyOf Try.f5)] (enter (ivA lSubset.ps (x0, x1, x2, ()))) = lSubset.go  m x0 x1 x2 := by kernel_rfl
theorem lSubset.ret  (hs : SpecsOK Try.prog (lSubset.specs ))  (x0 : (List (El TStatus))) (x1 : (List (El TPair))) (x2 : (El TPair)) {m : Nat} {r : IV} (h : lSubset.go  m x0 x1 x2 = some (r, [])) : VE.Returns Try.prog 5 (ivA lSubset.ps (x0, x1, x2, ())) r :=
  returns_of_run (cfg := lSubset.cfg ) (cfgOK_of mixed tab_ok hs .nil) rfl Try.func5 (body_some (by kernel_rfl)) (Nat.le_of_ble_eq_true (by kernel_rfl)) ((lSubset.run_eq  m x0 x1 x2).trans h)
abbrev lSubset.Law : Prop := ∀ (x0 : (List (El TStatus))) (x1 : (List (El TPair))) (x2 : (El TPair)), lSubset.pre (x0, x1, x2, ()) = true → VE.Returns Try.prog 5 (ivA lSubset.ps (x0, x1, x2, ())) (lSubset.res (x0, x1, x2, ()))
theorem lSubset.mkR (H : ∀ (x0 : (List (El TStatus))) (x1 : (List (El TPair))) (x2 : (El TPair)), lSubset.pre (x0, x1, x2, ()) = true → VE.Returns Try.prog 5 (ivA lSubset.ps (x0, x1, x2, ())) (lSubset.res (x0, x1, x2, ()))) : SpecOK Try.prog 5 lSubset.sp :=
  specOf_ret Try.func5 (by kernel_rfl) (by kernel_rfl) fun (x : (List (El TStatus)) × (List (El TPair)) × (El TPair) × Unit) hx => H (x.1) (x.2.1) (x.2.2.1) hx
theorem lSubset.mk  (hs : SpecsOK Try.prog (lSubset.specs ))  (H : ∀ (x0 : (List (El TStatus))) (x1 : (List (El TPair))) (x2 : (El TPair)), lSubset.pre (x0, x1, x2, ()) = true → ∃ m, lSubset.go  m x0 x1 x2 = some (lSubset.res (x0, x1, x2, ()), [])) : SpecOK Try.prog 5 lSubset.sp :=
  lSubset.mkR fun x0 x1 x2 hx => (H x0 x1 x2 hx).elim fun _ hm => lSubset.ret  hs  x0 x1 x2 hm

/-! ### triage/triagelaw17.FitGroups -/
abbrev lGroups.ps : List AK := [.d false (.sl TStatus), .d false (.sl (.int .i64))]
def lGroups.pre : ElA lGroups.ps → Bool := fun (x : (List (El TStatus)) × (List Int) × Unit) => fits (.sl TStatus) (x.1) && (fits (.sl (.int .i64)) (x.2.1) && (true))
def lGroups.res : ElA lGroups.ps → IV := fun (x : (List (El TStatus)) × (List Int) × Unit) => (fun _ _ => vb true) x.1 x.2.1
def lGroups.sp : ISpec := spOf lGroups.ps lGroups.pre lGroups.res
abbrev lGroups.OK : Prop := SpecOK Try.prog 6 lGroups.sp
noncomputable def lGroups.body : Code := bodyOf Try.f6
noncomputable def lGroups.rs : List ResultVar := Try.f6.results.toList
def lGroups.live : List (Nat × Live) := [(20, ⟨[(0, .sl TStatus), (1, .sl (.int .i64)), (5, .plain), (9, .sl TStatus), (11, .plain), (55, .sl TStatus), (56, .plain), (57, .plain), (61, .sl (.int .i64)), (62, .plain), (63, .plain)], [(9221, [])]⟩), (17, ⟨[(0, .sl TStatus), (1, .sl (.int .i64)), (5, .plain), (9, .sl TStatus), (55, .sl TStatus), (56, .plain), (57, .plain)], []⟩), (10, ⟨[(0, .sl TStatus), (1, .sl (.int .i64)), (5, .plain), (33, .sl TStatus), (34, .plain), (35, .plain)], []⟩), (5, ⟨[(0, .sl TStatus), (1, .sl (.int .i64)), (5, .plain), (23, .plain)], []⟩)]
noncomputable def lGroups.specs  : List (Nat × (List Bool × ISpec)) := [(8, ([], lightS16.sp)), (10, ([], awake.sp)), (14, ([], fGr.sp)), (18, ([], fWo.sp)), (11, ([], sameSR.sp))]
noncomputable def lGroups.ospecs  : List (Nat × OS) := []
noncomputable def lGroups.cfg  : Cfg := ⟨lkp tab, lkp (lGroups.specs ), lkp lGroups.live, ⟨lkp (lGroups.ospecs ), [], none, false⟩⟩
noncomputable def lGroups.l1  (m : Nat) (x0 : List (El TStatus)) (x1 : List Int) (x2 : Int) (x3 : Int) : R := run (lGroups.cfg ) 94 lGroups.rs m ((todoR 5 lGroups.body []).getD []) ⟨ofList (.c .junk) [(0, (.c (.sl TStatus x0))), (1, (.c (.sl (.int .i64) x1))), (5, (.c (.v (.int .i64 x2)))), (23, (.c (.v (.int .i64 x3))))], ofList none [], ofList false []⟩
noncomputable def lGroups.l2  (m : Nat) (x0 : List (El TStatus)) (x1 : List Int) (x2 : Int) (x3 : List (El TStatus)) (x4 : Int) (x5 : Int) : R := run (lGroups.cfg ) 94 lGroups.rs m ((todoR 10 lGroups.body []).getD []) ⟨ofList (.c .junk) [(0, (.c (.sl TStatus x0))), (1, (.c (.sl (.int .i64) x1))), (5, (.c (.v (.int .i64 x2)))), (33, (.c (.sl TStatus x3))), (34, (.c (.v (.int .i64 x4)))), (35, (.c (.v (.int .i64 x5))))], ofList none [], ofList false []⟩
noncomputable def lGroups.l3  (m : Nat) (x0 : List (El TStatus)) (x1 : List Int) (x2 : Int) (x3 : List (El TStatus)) (x4 : List (El TStatus)) (x5 : Int) (x6 : Int) : R := run (lGroups.cfg ) 94 lGroups.rs m ((todoR 17 lGroups.body []).getD []) ⟨ofList (.c .junk) [(0, (.c (.sl TStatus x0))), (1, (.c (.sl (.int .i64) x1))), (5, (.c (.v (.int .i64 x2)))), (9, (.c (.sl TStatus x3))), (55, (.c (.sl TStatus x4))), (56, (.c (.v (.int .i64 x5)))), (57, (.c (.v (.int .i64 x6))))], ofList none [], ofList false []⟩
noncomputable def lGroups.l4  (m : Nat) (x0 : List (El TStatus)) (x1 : List Int) (x2 : Int) (x3 : List (El TStatus)) (x4 : List (El TStatus)) (x5 : Int) (x6 : Int) (x7 : List Int) (x8 : Int) (x9 : Int) (x10 : Int) (x11 : ByteArray) (x12 : Int) (x13 : ByteArray) (x14 : Int) (x15 : List (El TPair)) (x16 : Bool) (x17 : Int) (x18 : Int) (x19 : Int) (x20 : Int) (x21 : Int) (x22 : Int) (x23 : Bool) (x24 : Int) (x25 : Int) (x26 : Int) (x27 : Bool) (x28 : Int) (x29 : Int) (x30 : Int) : R := run (lGroups.cfg ) 94 lGroups.rs m ((todoR 20 lGroups.body []).getD []) ⟨ofList (.c .junk) [(0, (.c (.sl TStatus x0))), (1, (.c (.sl (.int .i64) x1))), (5, (.c (.v (.int .i64 x2)))), (9, (.c (.sl TStatus x3))), (11, (.c (.ref 9221 0))), (55, (.c (.sl TStatus x4))), (56, (.c (.v (.int .i64 x5)))), (57, (.c (.v (.int .i64 x6)))), (61, (.c (.sl (.int .i64) x7))), (62, (.c (.v (.int .i64 x8)))), (63, (.c (.v (.int .i64 x9))))], ofList none [(9221, some (.cells 43 [(.v (.int .i64 x10)), (.v (.string x11)), (.v (.int .i64 x12)), (.v (.string x13)), (.v (.int .i64 x14)), (.sl TPair x15), (.v (.bool x16)), (.v (.int .i64 x17)), (.v (.int .i64 x18)), (.v (.int .i64 x19)), (.v (.int .i64 x20)), (.v (.int .i64 x21)), (.v (.int .i64 x22)), (.v (.bool x23)), (.v (.int .i64 x24)), (.v (.int .i64 x25)), (.v (.int .i64 x26)), (.v (.bool x27)), (.v (.int .i64 x28)), (.v (.int .i64 x29)), (.v (.int .i64 x30))]))], ofList false [(9221, true)]⟩
noncomputable def lGroups.go  (m : Nat) (x0 : (List (El TStatus))) (x1 : (List Int)) : R := run (lGroups.cfg ) 94 lGroups.rs m [.code lGroups.body] (enter (ivA lGroups.ps (x0, x1, ())))
theorem lGroups.start  (m : Nat) (x0 : (List (El TStatus))) (x1 : (List Int)) : lGroups.go  (m + 1) x0 x1 =
  test (lightS16.pre (x0, Unit.unit)) (
   cond (decide ((lightL x0) > (0 : Int))) (
    some ((.c (.v (.bool true))), [])) (
    cond (decide (((List.length x1) : Int) > (60 : Int))) (
     some ((.c (.v (.bool true))), [])) (
     lGroups.l1  m x0 x1 (0 : Int) (0 : Int)))) := by kernel_rfl
theorem lGroups.s1  (m : Nat) (x0 : List (El TStatus)) (x1 : List Int) (x2 : Int) (x3 : Int) : lGroups.l1  (m + 1) x0 x1 x2 x3 =
  cond (decide (x3 < (4 : Int))) (
   test (fGr.pre (x0, (x3, Unit.unit))) (
    lGroups.l1  m x0 x1 (IntKind.i64.wrap (x2 + ((List.length (List.filter (pGr x3) x0)) : Int))) (IntKind.i64.wrap (x3 + (1 : Int))))) (
   lGroups.l2  m x0 x1 x2 x0 ((List.length x0) : Int) (0 : Int)) := by kernel_rfl
theorem lGroups.s2  (m : Nat) (x0 : List (El TStatus)) (x1 : List Int) (x2 : Int) (x3 : List (El TStatus)) (x4 : Int) (x5 : Int) : lGroups.l2  (m + 1) x0 x1 x2 x3 x4 x5 =
  cond (decide (x5 < x4)) (
   test (decide ((0 : Int) ≤ x5)) (
    test (decide (x5 < ((List.length x3) : Int))) (
     cond (decide ((((((rdEl TStatus x3 (Int.toNat x5))).1).2).2).1 < (0 : Int))) (
      lGroups.l2  m x0 x1 (IntKind.i64.wrap (x2 + (1 : Int))) x3 x4 (IntKind.i64.wrap (x5 + (1 : Int)))) (
      cond (decide ((((((rdEl TStatus x3 (Int.toNat x5))).1).2).2).1 > (3 : Int))) (
       lGroups.l2  m x0 x1 (IntKind.i64.wrap (x2 + (1 : Int))) x3 x4 (IntKind.i64.wrap (x5 + (1 : Int)))) (
       lGroups.l2  m x0 x1 x2 x3 x4 (IntKind.i64.wrap (x5 + (1 : Int)))))))) (
   test (fWo.pre (x0, (x1, Unit.unit))) (
    lGroups.l3  m x0 x1 x2 (List.filter (pWo x1) x0) (List.filter (pWo x1) x0) ((List.length (List.filter (pWo x1) x0)) : Int) (0 : Int))) := by kernel_rfl
theorem lGroups.s3  (m : Nat) (x0 : List (El TStatus)) (x1 : List Int) (x2 : Int) (x3 : List (El TStatus)) (x4 : List (El TStatus)) (x5 : Int) (x6 : Int) : lGroups.l3  (m + 1) x0 x1 x2 x3 x4 x5 x6 =
  cond (decide (x6 < x5)) (
   test (decide ((0 : Int) ≤ x6)) (
    test (decide (x6 < ((List.length x4) : Int))) (
     lGroups.l4  m x0 x1 x2 x3 x4 x5 x6 x1 ((List.length x1) : Int) (0 : Int) (((rdEl TStatus x4 (Int.toNat x6))).1).1 ((((rdEl TStatus x4 (Int.toNat x6))).1).2).1 (((((rdEl TStatus x4 (Int.toNat x6))).1).2).2).1 ((((((rdEl TStatus x4 (Int.toNat x6))).1).2).2).2).1 (((((((rdEl TStatus x4 (Int.toNat x6))).1).2).2).2).2).1 (((((((rdEl TStatus x4 (Int.toNat x6))).1).2).2).2).2).2 ((((rdEl TStatus x4 (Int.toNat x6))).2).1).1 (((((rdEl TStatus x4 (Int.toNat x6))).2).1).2).1 ((((((rdEl TStatus x4 (Int.toNat x6))).2).1).2).2).1 ((((((rdEl TStatus x4 (Int.toNat x6))).2).1).2).2).2 ((((rdEl TStatus x4 (Int.toNat x6))).2).2).1 ((((((rdEl TStatus x4 (Int.toNat x6))).2).2).2).1).1 ((((((rdEl TStatus x4 (Int.toNat x6))).2).2).2).1).2 (((((((rdEl TStatus x4 (Int.toNat x6))).2).2).2).2).1).1 ((((((((rdEl TStatus x4 (Int.toNat x6))).2).2).2).2).1).2).1 (((((((((rdEl TStatus x4 (Int.toNat x6))).2).2).2).2).1).2).2).1 (((((((((rdEl TStatus x4 (Int.toNat x6))).2).2).2).2).1).2).2).2 (((((((rdEl TStatus x4 (Int.toNat x6))).2).2).2).2).2).1 ((((((((rdEl TStatus x4 (Int.toNat x6))).2).2).2).2).2).2).1 (((((((((rdEl TStatus x4 (Int.toNat x6))).2).2).2).2).2).2).2).1 (((((((((rdEl TStatus x4 (Int.toNat x6))).2).2).2).2).2).2).2).2))) (
   cond (x2 == ((List.length x0) : Int)) (
    test (fWo.pre (x3, (x1, Unit.unit))) (
     test (sameSR.pre ((List.filter (pWo x1) x3), (x3, Unit.unit))) (
      cond (sameSB (List.filter (pWo x1) x3) x3) (
       test (fWo.pre (x0, (([] : List Int), Unit.unit))) (
        test (sameSR.pre ((List.filter (pWo ([] : List Int)) x0), (x0, Unit.unit))) (
         cond (sameSB (List.filter (pWo ([] : List Int)) x0) x0) (
          some ((.c (.v (.bool true))), [])) (
          some ((.c (.v (.bool false))), []))))) (
       some ((.c (.v (.bool false))), []))))) (
    some ((.c (.v (.bool false))), []))) := by kernel_rfl
theorem lGroups.s4  (m : Nat) (x0 : List (El TStatus)) (x1 : List Int) (x2 : Int) (x3 : List (El TStatus)) (x4 : List (El TStatus)) (x5 : Int) (x6 : Int) (x7 : List Int) (x8 : Int) (x9 : Int) (x10 : Int) (x11 : ByteArray) (x12 : Int) (x13 : ByteArray) (x14 : Int) (x15 : List (El TPair)) (x16 : Bool) (x17 : Int) (x18 : Int) (x19 : Int) (x20 : Int) (x21 : Int) (x22 : Int) (x23 : Bool) (x24 : Int) (x25 : Int) (x26 : Int) (x27 : Bool) (x28 : Int) (x29 : Int) (x30 : Int) : lGroups.l4  (m + 1) x0 x1 x2 x3 x4 x5 x6 x7 x8 x9 x10 x11 x12 x13 x14 x15 x16 x17 x18 x19 x20 x21 x22 x23 x24 x25 x26 x27 x28 x29 x30 =
  cond (decide (x9 < x8)) (
   test (decide ((0 : Int) ≤ x9)) (
    test (decide (x9 < ((List.length x7) : Int))) (
     cond (x10 == (rdEl (.int .i64) x7 (Int.toNat x9))) (
      some ((.c (.v (.bool false))), [])) (
      lGroups.l4  m x0 x1 x2 x3 x4 x5 x6 x7 x8 (IntKind.i64.wrap (x9 + (1 : Int))) x10 x11 x12 x13 x14 x15 x16 x17 x18 x19 x20 x21 x22 x23 x24 x25 x26 x27 x28 x29 x30)))) (
   lGroups.l3  m x0 x1 x2 x3 x4 x5 (IntKind.i64.wrap (x6 + (1 : Int)))) := by kernel_rfl
theorem lGroups.run_eq  (m : Nat) (x0 : (List (El TStatus))) (x1 : (List Int)) : run (lGroups.cfg ) Try.f6.ntmps Try.f6.results.toList m [.code (bodyOf Try.f6)] (enter (ivA lGroups.ps (x0, x1, ()))) = lGroups.go  m x0 x1 := by kernel_rfl
theorem lGroups.ret  (hs : SpecsOK Try.prog (lGroups.specs ))  (x0 : (List (El TStatus))) (x1 : (List Int)) {m : Nat} {r : IV} (h : lGroups.go  m x0 x1 = some (r, [])) : VE.Returns Try.prog 6 (ivA lGroups.ps (x0, x1, ())) r :=
  returns_of_run (cfg := lGroups.cfg ) (cfgOK_of mixed tab_ok hs .nil) rfl Try.func6 (body_some (by kernel_rfl)) (Nat.le_of_ble_eq_true (by kernel_rfl)) ((lGroups.run_eq  m x0 x1).trans h)
abbrev lGroups.Law : Prop := ∀ (x0 : (List (El TStatus))) (x1 : (List Int)), lGroups.pre (x0, x1, ()) = true → VE.Returns Try.prog 6 (ivA lGroups.ps (x0, x1, ())) (lGroups.res (x0, x1, ()))
theorem lGroups.mkR (H : ∀ (x0 : (List (El TStatus))) (x1 : (List Int)), lGroups.pre (x0, x1, ()) = true → VE.Returns Try.prog 6 (ivA lGroups.ps (x0, x1, ())) (lGroups.res (x0, x1, ()))) : SpecOK Try.prog 6 lGroups.sp :=
  specOf_ret Try.func6 (by kernel_rfl) (by kernel_rfl) fun (x : (List (El TStatus)) × (List Int) × Unit) hx => H (x.1) (x.2.1) hx
theorem lGroups.mk  (hs : SpecsOK Try.prog (lGroups.specs ))  (H : ∀ (x0 : (List (El TStatus))) (x1 : (List Int)), lGroups.pre (x0, x1, ()) = true → ∃ m, lGroups.go  m x0 x1 = some (lGroups.res (x0, x1, ()), [])) : SpecOK Try.prog 6 lGroups.sp :=
  lGroups.mkR fun x0 x1 hx => (H x0 x1 hx).elim fun _ hm => lGroups.ret  hs  x0 x1 hm

/-! ### triage/triagelaw17.FitBelow -/
abbrev lBelow.ps : List AK := [.d false (.sl TStatus), .d false (.int .i64), .d false (.int .i64)]
def lBelow.pre : ElA lBelow.ps → Bool := fun (x : (List (El TStatus)) × Int × Int × Unit) => fits (.sl TStatus) (x.1) && (fits (.int .i64) (x.2.1) && (fits (.int .i64) (x.2.2.1) && (true)))
def lBelow.res : ElA lBelow.ps → IV := fun (x : (List (El TStatus)) × Int × Int × Unit) => (fun _ _ _ => vb true) x.1 x.2.1 x.2.2.1
def lBelow.sp : ISpec := spOf lBelow.ps lBelow.pre lBelow.res
abbrev lBelow.OK : Prop := SpecOK Try.prog 7 lBelow.sp
noncomputable def lBelow.body : Code := bodyOf Try.f7
noncomputable def lBelow.rs : List ResultVar := Try.f7.results.toList
def lBelow.live : List (Nat × Live) := []
noncomputable def lBelow.specs  : List (Nat × (List Bool × ISpec)) := [(8, ([], lightS16.sp)), (10, ([], awake.sp)), (20, ([], fBe.sp)), (11, ([], sameSR.sp))]
noncomputable def lBelow.ospecs  : List (Nat × OS) := []
noncomputable def lBelow.cfg  : Cfg := ⟨lkp tab, lkp (lBelow.specs ), lkp lBelow.live, ⟨lkp (lBelow.ospecs ), [], none, false⟩⟩
noncomputable def lBelow.go  (m : Nat) (x0 : (List (El TStatus))) (x1 : Int) (x2 : Int) : R := run (lBelow.cfg ) 39 lBelow.rs m [.code lBelow.body] (enter (ivA lBelow.ps (x0, x1, x2, ())))
theorem lBelow.start  (m : Nat) (x0 : (List (El TStatus))) (x1 : Int) (x2 : Int) : lBelow.go  (m + 1) x0 x1 x2 =
  test (lightS16.pre (x0, Unit.unit)) (
   cond (decide ((lightL x0) > (0 : Int))) (
    some ((.c (.v (.bool true))), [])) (
    cond (decide (x1 > x2)) (
     test (fBe.pre (x0, (x2, Unit.unit))) (
      test (fBe.pre (x0, (x1, Unit.unit))) (
       test (fBe.pre ((List.filter (pBe x1) x0), (x2, Unit.unit))) (
        test (sameSR.pre ((List.filter (pBe x2) (List.filter (pBe x1) x0)), ((List.filter (pBe x2) x0), Unit.unit))) (
         cond (sameSB (List.filter (pBe x2) (List.filter (pBe x1) x0)) (List.filter (pBe x2) x0)) (
          cond (decide (((List.length (List.filter (pBe x2) x0)) : Int) ≤ ((List.length (List.filter (pBe x1) x0)) : Int))) (
           some ((.c (.v (.bool true))), [])) (
           some ((.c (.v (.bool false))), []))) (
          some ((.c (.v (.bool false))), []))))))) (
     test (fBe.pre (x0, (x1, Unit.unit))) (
      test (fBe.pre (x0, (x2, Unit.unit))) (
       test (fBe.pre ((List.filter (pBe x2) x0), (x1, Unit.unit))) (
        test (sameSR.pre ((List.filter (pBe x1) (List.filter (pBe x2) x0)), ((List.filter (pBe x1) x0), Unit.unit))) (
         cond (sameSB (List.filter (pBe x1) (List.filter (pBe x2) x0)) (List.filter (pBe x1) x0)) (
          cond (decide (((List.length (List.filter (pBe x1) x0)) : Int) ≤ ((List.length (List.filter (pBe x2) x0)) : Int))) (
           some ((.c (.v (.bool true))), [])) (
           some ((.c (.v (.bool false))), []))) (
          some ((.c (.v (.bool false))), []))))))))) := by kernel_rfl
theorem lBelow.run_eq  (m : Nat) (x0 : (List (El TStatus))) (x1 : Int) (x2 : Int) : run (lBelow.cfg ) Try.f7.ntmps Try.f7.results.toList m [.code (bodyOf Try.f7)] (enter (ivA lBelow.ps (x0, x1, x2, ()))) = lBelow.go  m x0 x1 x2 := by kernel_rfl
theorem lBelow.ret  (hs : SpecsOK Try.prog (lBelow.specs ))  (x0 : (List (El TStatus))) (x1 : Int) (x2 : Int) {m : Nat} {r : IV} (h : lBelow.go  m x0 x1 x2 = some (r, [])) : VE.Returns Try.prog 7 (ivA lBelow.ps (x0, x1, x2, ())) r :=
  returns_of_run (cfg := lBelow.cfg ) (cfgOK_of mixed tab_ok hs .nil) rfl Try.func7 (body_some (by kernel_rfl)) (Nat.le_of_ble_eq_true (by kernel_rfl)) ((lBelow.run_eq  m x0 x1 x2).trans h)
abbrev lBelow.Law : Prop := ∀ (x0 : (List (El TStatus))) (x1 : Int) (x2 : Int), lBelow.pre (x0, x1, x2, ()) = true → VE.Returns Try.prog 7 (ivA lBelow.ps (x0, x1, x2, ())) (lBelow.res (x0, x1, x2, ()))
theorem lBelow.mkR (H : ∀ (x0 : (List (El TStatus))) (x1 : Int) (x2 : Int), lBelow.pre (x0, x1, x2, ()) = true → VE.Returns Try.prog 7 (ivA lBelow.ps (x0, x1, x2, ())) (lBelow.res (x0, x1, x2, ()))) : SpecOK Try.prog 7 lBelow.sp :=
  specOf_ret Try.func7 (by kernel_rfl) (by kernel_rfl) fun (x : (List (El TStatus)) × Int × Int × Unit) hx => H (x.1) (x.2.1) (x.2.2.1) hx
theorem lBelow.mk  (hs : SpecsOK Try.prog (lBelow.specs ))  (H : ∀ (x0 : (List (El TStatus))) (x1 : Int) (x2 : Int), lBelow.pre (x0, x1, x2, ()) = true → ∃ m, lBelow.go  m x0 x1 x2 = some (lBelow.res (x0, x1, x2, ()), [])) : SpecOK Try.prog 7 lBelow.sp :=
  lBelow.mkR fun x0 x1 x2 hx => (H x0 x1 x2 hx).elim fun _ hm => lBelow.ret  hs  x0 x1 x2 hm

end Go.Proofs.Ytemkgdkkpeijfaa
