/-
  Steps of the bodies, from checkpoint to checkpoint (printed by wip/VE/mk2.py).
-/
import Derived.Test.YtaikjghfccenfaaT
import Derived.Test.YtaikjghfccenfaaKA
import Derived.Test.YtaikjghfccenfaaCB
namespace Go.Proofs.Ytaikjghfccenfaa
open Go VE

/-! ### triage/triageref10.time -/
abbrev timeR.ps : List AK := [.d false (.int .i64)]
def timeR.pre : ElA timeR.ps → Bool := fun (x : Int × Unit) => fits (.int .i64) (x.1) && (true)
def timeR.res : ElA timeR.ps → IV := fun (x : Int × Unit) => (fun n => vi .i64 (n0 n)) x.1
def timeR.sp : ISpec := spOf timeR.ps timeR.pre timeR.res
abbrev timeR.OK : Prop := SpecOK Try.prog 15 timeR.sp
noncomputable def timeR.body : Code := bodyOf Try.f15
noncomputable def timeR.rs : List ResultVar := Try.f15.results.toList
def timeR.live : List (Nat × Live) := []
noncomputable def timeR.specs  : List (Nat × (List Bool × ISpec)) := []
noncomputable def timeR.ospecs  : List (Nat × OS) := []
noncomputable def timeR.cfg  : Cfg := ⟨lkp tab, lkp (timeR.specs ), lkp timeR.live, ⟨lkp (timeR.ospecs ), [], none⟩⟩
noncomputable def timeR.go  (m : Nat) (x0 : Int) : R := run (timeR.cfg ) 6 timeR.rs m [.code timeR.body] (enter (ivA timeR.ps (x0, ())))
theorem timeR.start  (m : Nat) (x0 : Int) : timeR.go  (m + 1) x0 =
  some ((.c (.v (.int .i64 (ite ((ite ((4611686018427387904 : Int) < x0) (4611686018427387904 : Int) x0) > (0 : Int)) (ite ((4611686018427387904 : Int) < x0) (4611686018427387904 : Int) x0) (0 : Int))))), []) := by kernel_rfl
theorem timeR.run_eq  (m : Nat) (x0 : Int) : run (timeR.cfg ) Try.f15.ntmps Try.f15.results.toList m [.code (bodyOf Try.f15)] (enter (ivA timeR.ps (x0, ()))) = timeR.go  m x0 := by kernel_rfl
theorem timeR.ret  (hs : SpecsOK Try.prog (timeR.specs ))  (x0 : Int) {m : Nat} {r : IV} (h : timeR.go  m x0 = some (r, [])) : VE.Returns Try.prog 15 (ivA timeR.ps (x0, ())) r :=
  returns_of_run (cfg := timeR.cfg ) (cfgOK_of mixed tab_ok hs .nil) rfl Try.func15 (body_some (by kernel_rfl)) (Nat.le_of_ble_eq_true (by kernel_rfl)) ((timeR.run_eq  m x0).trans h)
abbrev timeR.Law : Prop := ∀ (x0 : Int), timeR.pre (x0, ()) = true → VE.Returns Try.prog 15 (ivA timeR.ps (x0, ())) (timeR.res (x0, ()))
theorem timeR.mkR (H : ∀ (x0 : Int), timeR.pre (x0, ()) = true → VE.Returns Try.prog 15 (ivA timeR.ps (x0, ())) (timeR.res (x0, ()))) : SpecOK Try.prog 15 timeR.sp :=
  specOf_ret Try.func15 (by kernel_rfl) (by kernel_rfl) fun (x : Int × Unit) hx => H (x.1) hx
theorem timeR.mk  (hs : SpecsOK Try.prog (timeR.specs ))  (H : ∀ (x0 : Int), timeR.pre (x0, ()) = true → ∃ m, timeR.go  m x0 = some (timeR.res (x0, ()), [])) : SpecOK Try.prog 15 timeR.sp :=
  timeR.mkR fun x0 hx => (H x0 hx).elim fun _ hm => timeR.ret  hs  x0 hm

/-! ### triage/streak.Note -/
abbrev note.ps : List AK := [.d true TConfig, .d false (.int .i64), .d false .bool]
def note.pre : ElA note.ps → Bool := fun (x : (El TConfig) × Int × Bool × Unit) => fits TConfig (x.1) && (fits (.int .i64) (x.2.1) && (fits .bool (x.2.2.1) && (true)))
def note.res : ElA note.ps → IV := fun (x : (El TConfig) × Int × Bool × Unit) => (fun c n ok => .tup [vi .i64 (noteN n ok), vb (noteB c n ok)]) x.1 x.2.1 x.2.2.1
def note.sp : ISpec := spOf note.ps note.pre note.res
abbrev note.OK : Prop := SpecOK Try.prog 7 note.sp
noncomputable def note.body : Code := bodyOf Try.f7
noncomputable def note.rs : List ResultVar := Try.f7.results.toList
def note.live : List (Nat × Live) := []
noncomputable def note.specs  : List (Nat × (List Bool × ISpec)) := [(13, ([], cMay.sp)), (14, ([], cDef.sp))]
noncomputable def note.ospecs  : List (Nat × OS) := []
noncomputable def note.cfg  : Cfg := ⟨lkp tab, lkp (note.specs ), lkp note.live, ⟨lkp (note.ospecs ), [], none⟩⟩
noncomputable def note.go  (m : Nat) (x0 : (El TConfig)) (x1 : Int) (x2 : Bool) : R := run (note.cfg ) 27 note.rs m [.code note.body] (enter (ivA note.ps (x0, x1, x2, ())))
theorem note.start  (m : Nat) (x0 : (El TConfig)) (x1 : Int) (x2 : Bool) : note.go  (m + 1) x0 x1 x2 =
  cond x2 (
   some ((.tup [(.c (.v (.int .i64 (0 : Int)))), (.c (.v (.bool false)))]), [])) (
   test (cMay.pre (x0, Unit.unit)) (
    cond (Bool.not (mayC x0)) (
     some ((.tup [(.c (.v (.int .i64 (IntKind.i64.wrap ((ite ((4611686018427387903 : Int) < (ite ((0 : Int) > x1) (0 : Int) x1)) (4611686018427387903 : Int) (ite ((0 : Int) > x1) (0 : Int) x1)) + (1 : Int)))))), (.c (.v (.bool (decide ((IntKind.i64.wrap ((ite ((4611686018427387903 : Int) < (ite ((0 : Int) > x1) (0 : Int) x1)) (4611686018427387903 : Int) (ite ((0 : Int) > x1) (0 : Int) x1)) + (1 : Int))) ≥ defC.2.2.2.2.2.2.2.1)))))]), [])) (
     cond (decide (x0.2.2.2.2.2.2.2.1 > (0 : Int))) (
      some ((.tup [(.c (.v (.int .i64 (IntKind.i64.wrap ((ite ((4611686018427387903 : Int) < (ite ((0 : Int) > x1) (0 : Int) x1)) (4611686018427387903 : Int) (ite ((0 : Int) > x1) (0 : Int) x1)) + (1 : Int)))))), (.c (.v (.bool (decide ((IntKind.i64.wrap ((ite ((4611686018427387903 : Int) < (ite ((0 : Int) > x1) (0 : Int) x1)) (4611686018427387903 : Int) (ite ((0 : Int) > x1) (0 : Int) x1)) + (1 : Int))) ≥ x0.2.2.2.2.2.2.2.1)))))]), [])) (
      some ((.tup [(.c (.v (.int .i64 (IntKind.i64.wrap ((ite ((4611686018427387903 : Int) < (ite ((0 : Int) > x1) (0 : Int) x1)) (4611686018427387903 : Int) (ite ((0 : Int) > x1) (0 : Int) x1)) + (1 : Int)))))), (.c (.v (.bool false)))]), []))))) := by kernel_rfl
theorem note.run_eq  (m : Nat) (x0 : (El TConfig)) (x1 : Int) (x2 : Bool) : run (note.cfg ) Try.f7.ntmps Try.f7.results.toList m [.code (bodyOf Try.f7)] (enter (ivA note.ps (x0, x1, x2, ()))) = note.go  m x0 x1 x2 := by kernel_rfl
theorem note.ret  (hs : SpecsOK Try.prog (note.specs ))  (x0 : (El TConfig)) (x1 : Int) (x2 : Bool) {m : Nat} {r : IV} (h : note.go  m x0 x1 x2 = some (r, [])) : VE.Returns Try.prog 7 (ivA note.ps (x0, x1, x2, ())) r :=
  returns_of_run (cfg := note.cfg ) (cfgOK_of mixed tab_ok hs .nil) rfl Try.func7 (body_some (by kernel_rfl)) (Nat.le_of_ble_eq_true (by kernel_rfl)) ((note.run_eq  m x0 x1 x2).trans h)
abbrev note.Law : Prop := ∀ (x0 : (El TConfig)) (x1 : Int) (x2 : Bool), note.pre (x0, x1, x2, ()) = true → VE.Returns Try.prog 7 (ivA note.ps (x0, x1, x2, ())) (note.res (x0, x1, x2, ()))
theorem note.mkR (H : ∀ (x0 : (El TConfig)) (x1 : Int) (x2 : Bool), note.pre (x0, x1, x2, ()) = true → VE.Returns Try.prog 7 (ivA note.ps (x0, x1, x2, ())) (note.res (x0, x1, x2, ()))) : SpecOK Try.prog 7 note.sp :=
  specOf_ret Try.func7 (by kernel_rfl) (by kernel_rfl) fun (x : (El TConfig) × Int × Bool × Unit) hx => H (x.1) (x.2.1) (x.2.2.1) hx
theorem note.mk  (hs : SpecsOK Try.prog (note.specs ))  (H : ∀ (x0 : (El TConfig)) (x1 : Int) (x2 : Bool), note.pre (x0, x1, x2, ()) = true → ∃ m, note.go  m x0 x1 x2 = some (note.res (x0, x1, x2, ()), [])) : SpecOK Try.prog 7 note.sp :=
  note.mkR fun x0 x1 x2 hx => (H x0 x1 x2 hx).elim fun _ hm => note.ret  hs  x0 x1 x2 hm

/-! ### triage/triageref10.Streak -/
abbrev noteR.ps : List AK := [.d true TConfig, .d false (.int .i64), .d false .bool]
def noteR.pre : ElA noteR.ps → Bool := fun (x : (El TConfig) × Int × Bool × Unit) => fits TConfig (x.1) && (fits (.int .i64) (x.2.1) && (fits .bool (x.2.2.1) && (true)))
def noteR.res : ElA noteR.ps → IV := fun (x : (El TConfig) × Int × Bool × Unit) => (fun c n ok => .tup [vi .i64 (noteN n ok), vb (noteB c n ok)]) x.1 x.2.1 x.2.2.1
def noteR.sp : ISpec := spOf noteR.ps noteR.pre noteR.res
abbrev noteR.OK : Prop := SpecOK Try.prog 8 noteR.sp
noncomputable def noteR.body : Code := bodyOf Try.f8
noncomputable def noteR.rs : List ResultVar := Try.f8.results.toList
def noteR.live : List (Nat × Live) := []
noncomputable def noteR.specs  : List (Nat × (List Bool × ISpec)) := [(11, ([], heldR.sp)), (15, ([], timeR.sp))]
noncomputable def noteR.ospecs  : List (Nat × OS) := []
noncomputable def noteR.cfg  : Cfg := ⟨lkp tab, lkp (noteR.specs ), lkp noteR.live, ⟨lkp (noteR.ospecs ), [], none⟩⟩
noncomputable def noteR.go  (m : Nat) (x0 : (El TConfig)) (x1 : Int) (x2 : Bool) : R := run (noteR.cfg ) 25 noteR.rs m [.code noteR.body] (enter (ivA noteR.ps (x0, x1, x2, ())))
theorem noteR.start  (m : Nat) (x0 : (El TConfig)) (x1 : Int) (x2 : Bool) : noteR.go  (m + 1) x0 x1 x2 =
  test (heldR.pre (x0, Unit.unit)) (
   cond x2 (
    some ((.tup [(.c (.v (.int .i64 (0 : Int)))), (.c (.v (.bool false)))]), [])) (
    cond (decide ((((((((((heldC x0)).2).2).2).2).2).2).2).1 > (0 : Int))) (
     some ((.tup [(.c (.v (.int .i64 (ite ((4611686018427387904 : Int) < (IntKind.i64.wrap ((n0 x1) + (1 : Int)))) (4611686018427387904 : Int) (IntKind.i64.wrap ((n0 x1) + (1 : Int))))))), (.c (.v (.bool (decide ((ite ((4611686018427387904 : Int) < (IntKind.i64.wrap ((n0 x1) + (1 : Int)))) (4611686018427387904 : Int) (IntKind.i64.wrap ((n0 x1) + (1 : Int)))) ≥ (((((((((heldC x0)).2).2).2).2).2).2).2).1)))))]), [])) (
     some ((.tup [(.c (.v (.int .i64 (ite ((4611686018427387904 : Int) < (IntKind.i64.wrap ((n0 x1) + (1 : Int)))) (4611686018427387904 : Int) (IntKind.i64.wrap ((n0 x1) + (1 : Int))))))), (.c (.v (.bool false)))]), [])))) := by kernel_rfl
theorem noteR.run_eq  (m : Nat) (x0 : (El TConfig)) (x1 : Int) (x2 : Bool) : run (noteR.cfg ) Try.f8.ntmps Try.f8.results.toList m [.code (bodyOf Try.f8)] (enter (ivA noteR.ps (x0, x1, x2, ()))) = noteR.go  m x0 x1 x2 := by kernel_rfl
theorem noteR.ret  (hs : SpecsOK Try.prog (noteR.specs ))  (x0 : (El TConfig)) (x1 : Int) (x2 : Bool) {m : Nat} {r : IV} (h : noteR.go  m x0 x1 x2 = some (r, [])) : VE.Returns Try.prog 8 (ivA noteR.ps (x0, x1, x2, ())) r :=
  returns_of_run (cfg := noteR.cfg ) (cfgOK_of mixed tab_ok hs .nil) rfl Try.func8 (body_some (by kernel_rfl)) (Nat.le_of_ble_eq_true (by kernel_rfl)) ((noteR.run_eq  m x0 x1 x2).trans h)
abbrev noteR.Law : Prop := ∀ (x0 : (El TConfig)) (x1 : Int) (x2 : Bool), noteR.pre (x0, x1, x2, ()) = true → VE.Returns Try.prog 8 (ivA noteR.ps (x0, x1, x2, ())) (noteR.res (x0, x1, x2, ()))
theorem noteR.mkR (H : ∀ (x0 : (El TConfig)) (x1 : Int) (x2 : Bool), noteR.pre (x0, x1, x2, ()) = true → VE.Returns Try.prog 8 (ivA noteR.ps (x0, x1, x2, ())) (noteR.res (x0, x1, x2, ()))) : SpecOK Try.prog 8 noteR.sp :=
  specOf_ret Try.func8 (by kernel_rfl) (by kernel_rfl) fun (x : (El TConfig) × Int × Bool × Unit) hx => H (x.1) (x.2.1) (x.2.2.1) hx
theorem noteR.mk  (hs : SpecsOK Try.prog (noteR.specs ))  (H : ∀ (x0 : (El TConfig)) (x1 : Int) (x2 : Bool), noteR.pre (x0, x1, x2, ()) = true → ∃ m, noteR.go  m x0 x1 x2 = some (noteR.res (x0, x1, x2, ()), [])) : SpecOK Try.prog 8 noteR.sp :=
  noteR.mkR fun x0 x1 x2 hx => (H x0 x1 x2 hx).elim fun _ hm => noteR.ret  hs  x0 x1 x2 hm

/-! ### triage/streak.All -/
abbrev all.ps : List AK := [.d true TConfig, .d false (.int .i64), .d false (.sl .bool)]
def all.pre : ElA all.ps → Bool := fun (x : (El TConfig) × Int × (List Bool) × Unit) => fits TConfig (x.1) && (fits (.int .i64) (x.2.1) && (fits (.sl .bool) (x.2.2.1) && (true)))
def all.res : ElA all.ps → IV := fun (x : (El TConfig) × Int × (List Bool) × Unit) => (fun c n l => .tup [vi .i64 (allP c n l).1, vi .i64 (allP c n l).2]) x.1 x.2.1 x.2.2.1
def all.sp : ISpec := spOf all.ps all.pre all.res
abbrev all.OK : Prop := SpecOK Try.prog 9 all.sp
noncomputable def all.body : Code := bodyOf Try.f9
noncomputable def all.rs : List ResultVar := Try.f9.results.toList
def all.live : List (Nat × Live) := [(4, ⟨[(1, .plain), (3, .plain), (8, .plain), (15, .sl .bool), (16, .plain), (17, .plain)], [(1, [])]⟩)]
noncomputable def all.specs  : List (Nat × (List Bool × ISpec)) := [(7, ([], note.sp))]
noncomputable def all.ospecs  : List (Nat × OS) := []
noncomputable def all.cfg  : Cfg := ⟨lkp tab, lkp (all.specs ), lkp all.live, ⟨lkp (all.ospecs ), [], none⟩⟩
noncomputable def all.l1  (m : Nat) (x0 : Int) (x1 : Int) (x2 : List Bool) (x3 : Int) (x4 : Int) (x5 : Int) (x6 : Int) (x7 : Int) (x8 : Int) (x9 : Int) (x10 : Int) (x11 : Int) (x12 : Int) (x13 : Int) (x14 : Int) (x15 : Int) (x16 : Int) (x17 : Int) (x18 : Int) (x19 : Int) (x20 : Bool) (x21 : Int) (x22 : Int) (x23 : Int) (x24 : Int) (x25 : Int) (x26 : ByteArray) (x27 : Bool) : R := run (all.cfg ) 34 all.rs m ((todoR 4 all.body []).getD []) ⟨ofList (.c .junk) [(1, (.c (.v (.int .i64 x0)))), (3, (.c (.ref 1 0))), (8, (.c (.v (.int .i64 x1)))), (15, (.c (.sl .bool x2))), (16, (.c (.v (.int .i64 x3)))), (17, (.c (.v (.int .i64 x4))))], ofList none [(1, some (.cells 23 [(.v (.int .i64 x5)), (.v (.int .i64 x6)), (.v (.int .i64 x7)), (.v (.int .i64 x8)), (.v (.int .i64 x9)), (.v (.int .i64 x10)), (.v (.int .i64 x11)), (.v (.int .i64 x12)), (.v (.int .i64 x13)), (.v (.int .i64 x14)), (.v (.int .i64 x15)), (.v (.int .i64 x16)), (.v (.int .i64 x17)), (.v (.int .i64 x18)), (.v (.int .i64 x19)), (.v (.bool x20)), (.v (.int .i64 x21)), (.v (.int .i64 x22)), (.v (.int .i64 x23)), (.v (.int .i64 x24)), (.v (.int .i64 x25)), (.v (.string x26)), (.v (.bool x27))]))], ofList false [(1, true)]⟩
noncomputable def all.go  (m : Nat) (x0 : (El TConfig)) (x1 : Int) (x2 : (List Bool)) : R := run (all.cfg ) 34 all.rs m [.code all.body] (enter (ivA all.ps (x0, x1, x2, ())))
theorem all.start  (m : Nat) (x0 : (El TConfig)) (x1 : Int) (x2 : (List Bool)) : all.go  (m + 1) x0 x1 x2 =
  all.l1  m (ite ((4611686018427387904 : Int) < (ite ((0 : Int) > x1) (0 : Int) x1)) (4611686018427387904 : Int) (ite ((0 : Int) > x1) (0 : Int) x1)) (0 : Int) x2 ((List.length x2) : Int) (0 : Int) x0.1 x0.2.1 x0.2.2.1 x0.2.2.2.1 x0.2.2.2.2.1 x0.2.2.2.2.2.1 x0.2.2.2.2.2.2.1 x0.2.2.2.2.2.2.2.1 x0.2.2.2.2.2.2.2.2.1 x0.2.2.2.2.2.2.2.2.2.1 x0.2.2.2.2.2.2.2.2.2.2.1 x0.2.2.2.2.2.2.2.2.2.2.2.1 x0.2.2.2.2.2.2.2.2.2.2.2.2.1 x0.2.2.2.2.2.2.2.2.2.2.2.2.2.1 x0.2.2.2.2.2.2.2.2.2.2.2.2.2.2.1 x0.2.2.2.2.2.2.2.2.2.2.2.2.2.2.2.1 x0.2.2.2.2.2.2.2.2.2.2.2.2.2.2.2.2.1 x0.2.2.2.2.2.2.2.2.2.2.2.2.2.2.2.2.2.1 x0.2.2.2.2.2.2.2.2.2.2.2.2.2.2.2.2.2.2.1 x0.2.2.2.2.2.2.2.2.2.2.2.2.2.2.2.2.2.2.2.1 x0.2.2.2.2.2.2.2.2.2.2.2.2.2.2.2.2.2.2.2.2.1 x0.2.2.2.2.2.2.2.2.2.2.2.2.2.2.2.2.2.2.2.2.2.1 x0.2.2.2.2.2.2.2.2.2.2.2.2.2.2.2.2.2.2.2.2.2.2 := by kernel_rfl
theorem all.s1  (m : Nat) (x0 : Int) (x1 : Int) (x2 : List Bool) (x3 : Int) (x4 : Int) (x5 : Int) (x6 : Int) (x7 : Int) (x8 : Int) (x9 : Int) (x10 : Int) (x11 : Int) (x12 : Int) (x13 : Int) (x14 : Int) (x15 : Int) (x16 : Int) (x17 : Int) (x18 : Int) (x19 : Int) (x20 : Bool) (x21 : Int) (x22 : Int) (x23 : Int) (x24 : Int) (x25 : Int) (x26 : ByteArray) (x27 : Bool) : all.l1  (m + 1) x0 x1 x2 x3 x4 x5 x6 x7 x8 x9 x10 x11 x12 x13 x14 x15 x16 x17 x18 x19 x20 x21 x22 x23 x24 x25 x26 x27 =
  cond (decide (x4 < x3)) (
   test (decide ((0 : Int) ≤ x4)) (
    test (decide (x4 < ((List.length x2) : Int))) (
     test (note.pre ((x5, (x6, (x7, (x8, (x9, (x10, (x11, (x12, (x13, (x14, (x15, (x16, (x17, (x18, (x19, (x20, (x21, (x22, (x23, (x24, (x25, (x26, x27)))))))))))))))))))))), (x0, ((rdEl .bool x2 (Int.toNat x4)), Unit.unit)))) (
      cond (noteB (x5, (x6, (x7, (x8, (x9, (x10, (x11, (x12, (x13, (x14, (x15, (x16, (x17, (x18, (x19, (x20, (x21, (x22, (x23, (x24, (x25, (x26, x27)))))))))))))))))))))) x0 (rdEl .bool x2 (Int.toNat x4))) (
       all.l1  m (0 : Int) (IntKind.i64.wrap (x1 + (1 : Int))) x2 x3 (IntKind.i64.wrap (x4 + (1 : Int))) x5 x6 x7 x8 x9 x10 x11 x12 x13 x14 x15 x16 x17 x18 x19 x20 x21 x22 x23 x24 x25 x26 x27) (
       all.l1  m (noteN x0 (rdEl .bool x2 (Int.toNat x4))) x1 x2 x3 (IntKind.i64.wrap (x4 + (1 : Int))) x5 x6 x7 x8 x9 x10 x11 x12 x13 x14 x15 x16 x17 x18 x19 x20 x21 x22 x23 x24 x25 x26 x27))))) (
   some ((.tup [(.c (.v (.int .i64 x0))), (.c (.v (.int .i64 x1)))]), [])) := by kernel_rfl
theorem all.run_eq  (m : Nat) (x0 : (El TConfig)) (x1 : Int) (x2 : (List Bool)) : run (all.cfg ) Try.f9.ntmps Try.f9.results.toList m [.code (bodyOf Try.f9)] (enter (ivA all.ps (x0, x1, x2, ()))) = all.go  m x0 x1 x2 := by kernel_rfl
theorem all.ret  (hs : SpecsOK Try.prog (all.specs ))  (x0 : (El TConfig)) (x1 : Int) (x2 : (List Bool)) {m : Nat} {r : IV} (h : all.go  m x0 x1 x2 = some (r, [])) : VE.Returns Try.prog 9 (ivA all.ps (x0, x1, x2, ())) r :=
  returns_of_run (cfg := all.cfg ) (cfgOK_of mixed tab_ok hs .nil) rfl Try.func9 (body_some (by kernel_rfl)) (Nat.le_of_ble_eq_true (by kernel_rfl)) ((all.run_eq  m x0 x1 x2).trans h)
abbrev all.Law : Prop := ∀ (x0 : (El TConfig)) (x1 : Int) (x2 : (List Bool)), all.pre (x0, x1, x2, ()) = true → VE.Returns Try.prog 9 (ivA all.ps (x0, x1, x2, ())) (all.res (x0, x1, x2, ()))
theorem all.mkR (H : ∀ (x0 : (El TConfig)) (x1 : Int) (x2 : (List Bool)), all.pre (x0, x1, x2, ()) = true → VE.Returns Try.prog 9 (ivA all.ps (x0, x1, x2, ())) (all.res (x0, x1, x2, ()))) : SpecOK Try.prog 9 all.sp :=
  specOf_ret Try.func9 (by kernel_rfl) (by kernel_rfl) fun (x : (El TConfig) × Int × (List Bool) × Unit) hx => H (x.1) (x.2.1) (x.2.2.1) hx
theorem all.mk  (hs : SpecsOK Try.prog (all.specs ))  (H : ∀ (x0 : (El TConfig)) (x1 : Int) (x2 : (List Bool)), all.pre (x0, x1, x2, ()) = true → ∃ m, all.go  m x0 x1 x2 = some (all.res (x0, x1, x2, ()), [])) : SpecOK Try.prog 9 all.sp :=
  all.mkR fun x0 x1 x2 hx => (H x0 x1 x2 hx).elim fun _ hm => all.ret  hs  x0 x1 x2 hm

/-! ### triage/triagelaw11.awake -/
abbrev awake.ps : List AK := []
def awake.pre : ElA awake.ps → Bool := fun (x : Unit) => true
def awake.res : ElA awake.ps → IV := fun (x : Unit) => (vb true) 
def awake.sp : ISpec := spOf awake.ps awake.pre awake.res
abbrev awake.OK : Prop := SpecOK Try.prog 6 awake.sp
noncomputable def awake.body : Code := bodyOf Try.f6
noncomputable def awake.rs : List ResultVar := Try.f6.results.toList
def awake.live : List (Nat × Live) := []
noncomputable def awake.specs  : List (Nat × (List Bool × ISpec)) := [(12, ([], defR.sp)), (7, ([], note.sp))]
noncomputable def awake.ospecs  : List (Nat × OS) := []
noncomputable def awake.cfg  : Cfg := ⟨lkp tab, lkp (awake.specs ), lkp awake.live, ⟨lkp (awake.ospecs ), [], none⟩⟩
noncomputable def awake.go  (m : Nat)  : R := run (awake.cfg ) 45 awake.rs m [.code awake.body] (enter (ivA awake.ps ()))
theorem awake.start  (m : Nat)  : awake.go  (m + 1)  =
  some ((.c (.v (.bool (Bool.not (noteB defC (4 : Int) true))))), []) := by kernel_rfl
theorem awake.run_eq  (m : Nat)  : run (awake.cfg ) Try.f6.ntmps Try.f6.results.toList m [.code (bodyOf Try.f6)] (enter (ivA awake.ps ())) = awake.go  m  := by kernel_rfl
theorem awake.ret  (hs : SpecsOK Try.prog (awake.specs ))   {m : Nat} {r : IV} (h : awake.go  m  = some (r, [])) : VE.Returns Try.prog 6 (ivA awake.ps ()) r :=
  returns_of_run (cfg := awake.cfg ) (cfgOK_of mixed tab_ok hs .nil) rfl Try.func6 (body_some (by kernel_rfl)) (Nat.le_of_ble_eq_true (by kernel_rfl)) ((awake.run_eq  m ).trans h)
abbrev awake.Law : Prop := ∀ (_ : Unit), awake.pre () = true → VE.Returns Try.prog 6 (ivA awake.ps ()) (awake.res ())
theorem awake.mkR (H : ∀ (_ : Unit), awake.pre () = true → VE.Returns Try.prog 6 (ivA awake.ps ()) (awake.res ())) : SpecOK Try.prog 6 awake.sp :=
  specOf_ret Try.func6 (by kernel_rfl) (by kernel_rfl) fun (x : Unit) hx => H () hx
theorem awake.mk  (hs : SpecsOK Try.prog (awake.specs ))  (H : ∀ (_ : Unit), awake.pre () = true → ∃ m, awake.go  m  = some (awake.res (), [])) : SpecOK Try.prog 6 awake.sp :=
  awake.mkR fun _ hx => (H () hx).elim fun _ hm => awake.ret  hs   hm

/-! ### triage/triagelaw11.StreakForms -/
abbrev lForms.ps : List AK := [.d true TConfig, .d false (.int .i64), .d false .bool, .d false (.sl .bool)]
def lForms.pre : ElA lForms.ps → Bool := fun (x : (El TConfig) × Int × Bool × (List Bool) × Unit) => fits TConfig (x.1) && (fits (.int .i64) (x.2.1) && (fits .bool (x.2.2.1) && (fits (.sl .bool) (x.2.2.2.1) && (true))))
def lForms.res : ElA lForms.ps → IV := fun (x : (El TConfig) × Int × Bool × (List Bool) × Unit) => (fun _ _ _ _ => vb true) x.1 x.2.1 x.2.2.1 x.2.2.2.1
def lForms.sp : ISpec := spOf lForms.ps lForms.pre lForms.res
abbrev lForms.OK : Prop := SpecOK Try.prog 3 lForms.sp
noncomputable def lForms.body : Code := bodyOf Try.f3
noncomputable def lForms.rs : List ResultVar := Try.f3.results.toList
def lForms.live : List (Nat × Live) := [(7, ⟨[(1, .plain), (3, .sl .bool), (4, .plain), (9, .plain), (10, .plain), (11, .plain), (12, .plain), (13, .plain), (14, .plain), (48, .sl .bool), (49, .plain), (50, .plain)], [(1, [])]⟩)]
noncomputable def lForms.specs  : List (Nat × (List Bool × ISpec)) := [(6, ([], awake.sp)), (7, ([], note.sp)), (8, ([], noteR.sp)), (9, ([], all.sp))]
noncomputable def lForms.ospecs  : List (Nat × OS) := []
noncomputable def lForms.cfg  : Cfg := ⟨lkp tab, lkp (lForms.specs ), lkp lForms.live, ⟨lkp (lForms.ospecs ), [], none⟩⟩
noncomputable def lForms.l1  (m : Nat) (x0 : Int) (x1 : List Bool) (x2 : Int) (x3 : Bool) (x4 : Int) (x5 : Bool) (x6 : Int) (x7 : Int) (x8 : List Bool) (x9 : Int) (x10 : Int) (x11 : Int) (x12 : Int) (x13 : Int) (x14 : Int) (x15 : Int) (x16 : Int) (x17 : Int) (x18 : Int) (x19 : Int) (x20 : Int) (x21 : Int) (x22 : Int) (x23 : Int) (x24 : Int) (x25 : Int) (x26 : Bool) (x27 : Int) (x28 : Int) (x29 : Int) (x30 : Int) (x31 : Int) (x32 : ByteArray) (x33 : Bool) : R := run (lForms.cfg ) 94 lForms.rs m ((todoR 7 lForms.body []).getD []) ⟨ofList (.c .junk) [(1, (.c (.v (.int .i64 x0)))), (3, (.c (.sl .bool x1))), (4, (.c (.ref 1 0))), (9, (.c (.v (.int .i64 x2)))), (10, (.c (.v (.bool x3)))), (11, (.c (.v (.int .i64 x4)))), (12, (.c (.v (.bool x5)))), (13, (.c (.v (.int .i64 x6)))), (14, (.c (.v (.int .i64 x7)))), (48, (.c (.sl .bool x8))), (49, (.c (.v (.int .i64 x9)))), (50, (.c (.v (.int .i64 x10))))], ofList none [(1, some (.cells 23 [(.v (.int .i64 x11)), (.v (.int .i64 x12)), (.v (.int .i64 x13)), (.v (.int .i64 x14)), (.v (.int .i64 x15)), (.v (.int .i64 x16)), (.v (.int .i64 x17)), (.v (.int .i64 x18)), (.v (.int .i64 x19)), (.v (.int .i64 x20)), (.v (.int .i64 x21)), (.v (.int .i64 x22)), (.v (.int .i64 x23)), (.v (.int .i64 x24)), (.v (.int .i64 x25)), (.v (.bool x26)), (.v (.int .i64 x27)), (.v (.int .i64 x28)), (.v (.int .i64 x29)), (.v (.int .i64 x30)), (.v (.int .i64 x31)), (.v (.string x32)), (.v (.bool x33))]))], ofList false [(1, true)]⟩
noncomputable def lForms.go  (m : Nat) (x0 : (El TConfig)) (x1 : Int) (x2 : Bool) (x3 : (List Bool)) : R := run (lForms.cfg ) 94 lForms.rs m [.code lForms.body] (enter (ivA lForms.ps (x0, x1, x2, x3, ())))
theorem lForms.start  (m : Nat) (x0 : (El TConfig)) (x1 : Int) (x2 : Bool) (x3 : (List Bool)) : lForms.go  (m + 1) x0 x1 x2 x3 =
  cond (decide (((List.length x3) : Int) > (300 : Int))) (
   some ((.c (.v (.bool true))), [])) (
   cond (decide (((ByteArray.size x0.2.2.2.2.2.2.2.2.2.2.2.2.2.2.2.2.2.2.2.2.2.1) : Int) > (100 : Int))) (
    some ((.c (.v (.bool true))), [])) (
    test (note.pre (x0, (x1, (x2, Unit.unit)))) (
     test (noteR.pre (x0, (x1, (x2, Unit.unit)))) (
      lForms.l1  m x1 x3 (noteN x1 x2) (noteB x0 x1 x2) (noteN x1 x2) (noteB x0 x1 x2) (ite ((ite ((4611686018427387904 : Int) < x1) (4611686018427387904 : Int) x1) > (0 : Int)) (ite ((4611686018427387904 : Int) < x1) (4611686018427387904 : Int) x1) (0 : Int)) (0 : Int) x3 ((List.length x3) : Int) (0 : Int) x0.1 x0.2.1 x0.2.2.1 x0.2.2.2.1 x0.2.2.2.2.1 x0.2.2.2.2.2.1 x0.2.2.2.2.2.2.1 x0.2.2.2.2.2.2.2.1 x0.2.2.2.2.2.2.2.2.1 x0.2.2.2.2.2.2.2.2.2.1 x0.2.2.2.2.2.2.2.2.2.2.1 x0.2.2.2.2.2.2.2.2.2.2.2.1 x0.2.2.2.2.2.2.2.2.2.2.2.2.1 x0.2.2.2.2.2.2.2.2.2.2.2.2.2.1 x0.2.2.2.2.2.2.2.2.2.2.2.2.2.2.1 x0.2.2.2.2.2.2.2.2.2.2.2.2.2.2.2.1 x0.2.2.2.2.2.2.2.2.2.2.2.2.2.2.2.2.1 x0.2.2.2.2.2.2.2.2.2.2.2.2.2.2.2.2.2.1 x0.2.2.2.2.2.2.2.2.2.2.2.2.2.2.2.2.2.2.1 x0.2.2.2.2.2.2.2.2.2.2.2.2.2.2.2.2.2.2.2.1 x0.2.2.2.2.2.2.2.2.2.2.2.2.2.2.2.2.2.2.2.2.1 x0.2.2.2.2.2.2.2.2.2.2.2.2.2.2.2.2.2.2.2.2.2.1 x0.2.2.2.2.2.2.2.2.2.2.2.2.2.2.2.2.2.2.2.2.2.2)))) := by kernel_rfl
theorem lForms.s1  (m : Nat) (x0 : Int) (x1 : List Bool) (x2 : Int) (x3 : Bool) (x4 : Int) (x5 : Bool) (x6 : Int) (x7 : Int) (x8 : List Bool) (x9 : Int) (x10 : Int) (x11 : Int) (x12 : Int) (x13 : Int) (x14 : Int) (x15 : Int) (x16 : Int) (x17 : Int) (x18 : Int) (x19 : Int) (x20 : Int) (x21 : Int) (x22 : Int) (x23 : Int) (x24 : Int) (x25 : Int) (x26 : Bool) (x27 : Int) (x28 : Int) (x29 : Int) (x30 : Int) (x31 : Int) (x32 : ByteArray) (x33 : Bool) : lForms.l1  (m + 1) x0 x1 x2 x3 x4 x5 x6 x7 x8 x9 x10 x11 x12 x13 x14 x15 x16 x17 x18 x19 x20 x21 x22 x23 x24 x25 x26 x27 x28 x29 x30 x31 x32 x33 =
  cond (decide (x10 < x9)) (
   test (decide ((0 : Int) ≤ x10)) (
    test (decide (x10 < ((List.length x8) : Int))) (
     test (noteR.pre ((x11, (x12, (x13, (x14, (x15, (x16, (x17, (x18, (x19, (x20, (x21, (x22, (x23, (x24, (x25, (x26, (x27, (x28, (x29, (x30, (x31, (x32, x33)))))))))))))))))))))), (x6, ((rdEl .bool x8 (Int.toNat x10)), Unit.unit)))) (
      cond (noteB (x11, (x12, (x13, (x14, (x15, (x16, (x17, (x18, (x19, (x20, (x21, (x22, (x23, (x24, (x25, (x26, (x27, (x28, (x29, (x30, (x31, (x32, x33)))))))))))))))))))))) x6 (rdEl .bool x8 (Int.toNat x10))) (
       lForms.l1  m x0 x1 x2 x3 x4 x5 (0 : Int) (IntKind.i64.wrap (x7 + (1 : Int))) x8 x9 (IntKind.i64.wrap (x10 + (1 : Int))) x11 x12 x13 x14 x15 x16 x17 x18 x19 x20 x21 x22 x23 x24 x25 x26 x27 x28 x29 x30 x31 x32 x33) (
       lForms.l1  m x0 x1 x2 x3 x4 x5 (noteN x6 (rdEl .bool x8 (Int.toNat x10))) x7 x8 x9 (IntKind.i64.wrap (x10 + (1 : Int))) x11 x12 x13 x14 x15 x16 x17 x18 x19 x20 x21 x22 x23 x24 x25 x26 x27 x28 x29 x30 x31 x32 x33))))) (
   test (all.pre ((x11, (x12, (x13, (x14, (x15, (x16, (x17, (x18, (x19, (x20, (x21, (x22, (x23, (x24, (x25, (x26, (x27, (x28, (x29, (x30, (x31, (x32, x33)))))))))))))))))))))), (x0, (x1, Unit.unit)))) (
    cond (x2 == x4) (
     cond (x3 == x5) (
      cond (((allP (x11, (x12, (x13, (x14, (x15, (x16, (x17, (x18, (x19, (x20, (x21, (x22, (x23, (x24, (x25, (x26, (x27, (x28, (x29, (x30, (x31, (x32, x33)))))))))))))))))))))) x0 x1)).1 == x6) (
       cond (((allP (x11, (x12, (x13, (x14, (x15, (x16, (x17, (x18, (x19, (x20, (x21, (x22, (x23, (x24, (x25, (x26, (x27, (x28, (x29, (x30, (x31, (x32, x33)))))))))))))))))))))) x0 x1)).2 == x7) (
        some ((.c (.v (.bool true))), [])) (
        some ((.c (.v (.bool false))), []))) (
       some ((.c (.v (.bool false))), []))) (
      some ((.c (.v (.bool false))), []))) (
     some ((.c (.v (.bool false))), [])))) := by kernel_rfl
theorem lForms.run_eq  (m : Nat) (x0 : (El TConfig)) (x1 : Int) (x2 : Bool) (x3 : (List Bool)) : run (lForms.cfg ) Try.f3.ntmps Try.f3.results.toList m [.code (bodyOf Try.f3)] (enter (ivA lForms.ps (x0, x1, x2, x3, ()))) = lForms.go  m x0 x1 x2 x3 := by kernel_rfl
theorem lForms.ret  (hs : SpecsOK Try.prog (lForms.specs ))  (x0 : (El TConfig)) (x1 : Int) (x2 : Bool) (x3 : (List Bool)) {m : Nat} {r : IV} (h : lForms.go  m x0 x1 x2 x3 = some (r, [])) : VE.Returns Try.prog 3 (ivA lForms.ps (x0, x1, x2, x3, ())) r :=
  returns_of_run (cfg := lForms.cfg ) (cfgOK_of mixed tab_ok hs .nil) rfl Try.func3 (body_some (by kernel_rfl)) (Nat.le_of_ble_eq_true (by kernel_rfl)) ((lForms.run_eq  m x0 x1 x2 x3).trans h)
abbrev lForms.Law : Prop := ∀ (x0 : (El TConfig)) (x1 : Int) (x2 : Bool) (x3 : (List Bool)), lForms.pre (x0, x1, x2, x3, ()) = true → VE.Returns Try.prog 3 (ivA lForms.ps (x0, x1, x2, x3, ())) (lForms.res (x0, x1, x2, x3, ()))
theorem lForms.mkR (H : ∀ (x0 : (El TConfig)) (x1 : Int) (x2 : Bool) (x3 : (List Bool)), lForms.pre (x0, x1, x2, x3, ()) = true → VE.Returns Try.prog 3 (ivA lForms.ps (x0, x1, x2, x3, ())) (lForms.res (x0, x1, x2, x3, ()))) : SpecOK Try.prog 3 lForms.sp :=
  specOf_ret Try.func3 (by kernel_rfl) (by kernel_rfl) fun (x : (El TConfig) × Int × Bool × (List Bool) × Unit) hx => H (x.1) (x.2.1) (x.2.2.1) (x.2.2.2.1) hx
theorem lForms.mk  (hs : SpecsOK Try.prog (lForms.specs ))  (H : ∀ (x0 : (El TConfig)) (x1 : Int) (x2 : Bool) (x3 : (List Bool)), lForms.pre (x0, x1, x2, x3, ()) = true → ∃ m, lForms.go  m x0 x1 x2 x3 = some (lForms.res (x0, x1, x2, x3, ()), [])) : SpecOK Try.prog 3 lForms.sp :=
  lForms.mkR fun x0 x1 x2 x3 hx => (H x0 x1 x2 x3 hx).elim fun _ hm => lForms.ret  hs  x0 x1 x2 x3 hm

/-! ### triage/triagelaw11.StreakOnce -/
abbrev lOnce.ps : List AK := [.d true TConfig, .d false (.int .i64), .d false (.int .i64)]
def lOnce.pre : ElA lOnce.ps → Bool := fun (x : (El TConfig) × Int × Int × Unit) => fits TConfig (x.1) && (fits (.int .i64) (x.2.1) && (fits (.int .i64) (x.2.2.1) && (true)))
def lOnce.res : ElA lOnce.ps → IV := fun (x : (El TConfig) × Int × Int × Unit) => (fun _ _ _ => vb true) x.1 x.2.1 x.2.2.1
def lOnce.sp : ISpec := spOf lOnce.ps lOnce.pre lOnce.res
abbrev lOnce.OK : Prop := SpecOK Try.prog 4 lOnce.sp
noncomputable def lOnce.body : Code := bodyOf Try.f4
noncomputable def lOnce.rs : List ResultVar := Try.f4.results.toList
def lOnce.live : List (Nat × Live) := [(7, ⟨[(1, .plain), (3, .plain), (7, .sl .bool), (8, .arr 4 .bool), (33, .plain), (34, .plain)], [(1, [])]⟩)]
noncomputable def lOnce.specs  : List (Nat × (List Bool × ISpec)) := [(6, ([], awake.sp)), (10, ([], mayCR.sp)), (9, ([], all.sp))]
noncomputable def lOnce.ospecs  : List (Nat × OS) := []
noncomputable def lOnce.cfg  : Cfg := ⟨lkp tab, lkp (lOnce.specs ), lkp lOnce.live, ⟨lkp (lOnce.ospecs ), [], none⟩⟩
noncomputable def lOnce.l1  (m : Nat) (x0 : Int) (x1 : List Bool) (x2 : Int) (x3 : Int) (x4 : List Bool) (x5 : Int) (x6 : Int) (x7 : Int) (x8 : Int) (x9 : Int) (x10 : Int) (x11 : Int) (x12 : Int) (x13 : Int) (x14 : Int) (x15 : Int) (x16 : Int) (x17 : Int) (x18 : Int) (x19 : Int) (x20 : Bool) (x21 : Int) (x22 : Int) (x23 : Int) (x24 : Int) (x25 : Int) (x26 : ByteArray) (x27 : Bool) : R := run (lOnce.cfg ) 112 lOnce.rs m ((todoR 7 lOnce.body []).getD []) ⟨ofList (.c .junk) [(1, (.c (.v (.int .i64 x0)))), (3, (.c (.ref 1 0))), (7, (.c (.sl .bool x1))), (8, (.c (.sref 1150))), (33, (.c (.v (.int .i64 x2)))), (34, (.c (.v (.int .i64 x3))))], ofList none [(1150, some (.arr 4 .bool x4 false)), (1, some (.cells 23 [(.v (.int .i64 x5)), (.v (.int .i64 x6)), (.v (.int .i64 x7)), (.v (.int .i64 x8)), (.v (.int .i64 x9)), (.v (.int .i64 x10)), (.v (.int .i64 x11)), (.v (.int .i64 x12)), (.v (.int .i64 x13)), (.v (.int .i64 x14)), (.v (.int .i64 x15)), (.v (.int .i64 x16)), (.v (.int .i64 x17)), (.v (.int .i64 x18)), (.v (.int .i64 x19)), (.v (.bool x20)), (.v (.int .i64 x21)), (.v (.int .i64 x22)), (.v (.int .i64 x23)), (.v (.int .i64 x24)), (.v (.int .i64 x25)), (.v (.string x26)), (.v (.bool x27))]))], ofList false [(1150, true), (1, true)]⟩
noncomputable def lOnce.go  (m : Nat) (x0 : (El TConfig)) (x1 : Int) (x2 : Int) : R := run (lOnce.cfg ) 112 lOnce.rs m [.code lOnce.body] (enter (ivA lOnce.ps (x0, x1, x2, ())))
theorem lOnce.start  (m : Nat) (x0 : (El TConfig)) (x1 : Int) (x2 : Int) : lOnce.go  (m + 1) x0 x1 x2 =
  test (mayCR.pre (x0, Unit.unit)) (
   cond (Bool.not (mayC x0)) (
    some ((.c (.v (.bool true))), [])) (
    test (decide ((0 : Int) ≤ (IntKind.i64.wrap (Int.tmod (IntKind.u64.wrap x1) (300 : Int))))) (
     test (decide ((IntKind.i64.wrap (Int.tmod (IntKind.u64.wrap x1) (300 : Int))) ≤ (IntKind.i64.wrap (Int.tmod (IntKind.u64.wrap x1) (300 : Int))))) (
      test (decide ((IntKind.i64.wrap (Int.tmod (IntKind.u64.wrap x1) (300 : Int))) ≤ ((lim 1) : Int))) (
       test (decide ((0 : Int) ≤ (IntKind.i64.wrap (Int.tmod (IntKind.u64.wrap x2) (300 : Int))))) (
        test (decide ((IntKind.i64.wrap (Int.tmod (IntKind.u64.wrap x2) (300 : Int))) ≤ (IntKind.i64.wrap (Int.tmod (IntKind.u64.wrap x2) (300 : Int))))) (
         test (decide ((IntKind.i64.wrap (Int.tmod (IntKind.u64.wrap x2) (300 : Int))) ≤ ((lim 1) : Int))) (
          lOnce.l1  m (IntKind.i64.wrap (Int.tmod (IntKind.u64.wrap x1) (300 : Int))) (List.replicate (Int.toNat (IntKind.i64.wrap (Int.tmod (IntKind.u64.wrap x1) (300 : Int)))) false) ((List.length (List.replicate (Int.toNat (IntKind.i64.wrap (Int.tmod (IntKind.u64.wrap x2) (300 : Int)))) false)) : Int) (0 : Int) (List.replicate (Int.toNat (IntKind.i64.wrap (Int.tmod (IntKind.u64.wrap x2) (300 : Int)))) false) x0.1 x0.2.1 x0.2.2.1 x0.2.2.2.1 x0.2.2.2.2.1 x0.2.2.2.2.2.1 x0.2.2.2.2.2.2.1 x0.2.2.2.2.2.2.2.1 x0.2.2.2.2.2.2.2.2.1 x0.2.2.2.2.2.2.2.2.2.1 x0.2.2.2.2.2.2.2.2.2.2.1 x0.2.2.2.2.2.2.2.2.2.2.2.1 x0.2.2.2.2.2.2.2.2.2.2.2.2.1 x0.2.2.2.2.2.2.2.2.2.2.2.2.2.1 x0.2.2.2.2.2.2.2.2.2.2.2.2.2.2.1 x0.2.2.2.2.2.2.2.2.2.2.2.2.2.2.2.1 x0.2.2.2.2.2.2.2.2.2.2.2.2.2.2.2.2.1 x0.2.2.2.2.2.2.2.2.2.2.2.2.2.2.2.2.2.1 x0.2.2.2.2.2.2.2.2.2.2.2.2.2.2.2.2.2.2.1 x0.2.2.2.2.2.2.2.2.2.2.2.2.2.2.2.2.2.2.2.1 x0.2.2.2.2.2.2.2.2.2.2.2.2.2.2.2.2.2.2.2.2.1 x0.2.2.2.2.2.2.2.2.2.2.2.2.2.2.2.2.2.2.2.2.2.1 x0.2.2.2.2.2.2.2.2.2.2.2.2.2.2.2.2.2.2.2.2.2.2)))))))) := by kernel_rfl
theorem lOnce.s1  (m : Nat) (x0 : Int) (x1 : List Bool) (x2 : Int) (x3 : Int) (x4 : List Bool) (x5 : Int) (x6 : Int) (x7 : Int) (x8 : Int) (x9 : Int) (x10 : Int) (x11 : Int) (x12 : Int) (x13 : Int) (x14 : Int) (x15 : Int) (x16 : Int) (x17 : Int) (x18 : Int) (x19 : Int) (x20 : Bool) (x21 : Int) (x22 : Int) (x23 : Int) (x24 : Int) (x25 : Int) (x26 : ByteArray) (x27 : Bool) : lOnce.l1  (m + 1) x0 x1 x2 x3 x4 x5 x6 x7 x8 x9 x10 x11 x12 x13 x14 x15 x16 x17 x18 x19 x20 x21 x22 x23 x24 x25 x26 x27 =
  cond (decide (x3 < x2)) (
   test (decide ((0 : Int) ≤ x3)) (
    test (decide (x3 < ((List.length x4) : Int))) (
     lOnce.l1  m x0 x1 x2 (IntKind.i64.wrap (x3 + (1 : Int))) (List.set x4 (Int.toNat x3) true) x5 x6 x7 x8 x9 x10 x11 x12 x13 x14 x15 x16 x17 x18 x19 x20 x21 x22 x23 x24 x25 x26 x27))) (
   test (all.pre ((x5, (x6, (x7, (x8, (x9, (x10, (x11, (x12, (x13, (x14, (x15, (x16, (x17, (x18, (x19, (x20, (x21, (x22, (x23, (x24, (x25, (x26, x27)))))))))))))))))))))), ((0 : Int), (x1, Unit.unit)))) (
    test (all.pre ((x5, (x6, (x7, (x8, (x9, (x10, (x11, (x12, (x13, (x14, (x15, (x16, (x17, (x18, (x19, (x20, (x21, (x22, (x23, (x24, (x25, (x26, x27)))))))))))))))))))))), ((0 : Int), (x4, Unit.unit)))) (
     cond (bne ((allP (x5, (x6, (x7, (x8, (x9, (x10, (x11, (x12, (x13, (x14, (x15, (x16, (x17, (x18, (x19, (x20, (x21, (x22, (x23, (x24, (x25, (x26, x27)))))))))))))))))))))) (0 : Int) x4)).1 (0 : Int)) (
      some ((.c (.v (.bool false))), [])) (
      cond (bne ((allP (x5, (x6, (x7, (x8, (x9, (x10, (x11, (x12, (x13, (x14, (x15, (x16, (x17, (x18, (x19, (x20, (x21, (x22, (x23, (x24, (x25, (x26, x27)))))))))))))))))))))) (0 : Int) x4)).2 (0 : Int)) (
       some ((.c (.v (.bool false))), [])) (
       cond (x12 == (0 : Int)) (
        cond (((allP (x5, (x6, (x7, (x8, (x9, (x10, (x11, (x12, (x13, (x14, (x15, (x16, (x17, (x18, (x19, (x20, (x21, (x22, (x23, (x24, (x25, (x26, x27)))))))))))))))))))))) (0 : Int) x1)).1 == x0) (
         cond (((allP (x5, (x6, (x7, (x8, (x9, (x10, (x11, (x12, (x13, (x14, (x15, (x16, (x17, (x18, (x19, (x20, (x21, (x22, (x23, (x24, (x25, (x26, x27)))))))))))))))))))))) (0 : Int) x1)).2 == (0 : Int)) (
          some ((.c (.v (.bool true))), [])) (
          some ((.c (.v (.bool false))), []))) (
         some ((.c (.v (.bool false))), []))) (
        test (decide (((List.length ([] : List Bool)) + (List.length x1)) ≤ (lim 1))) (
         test (decide (((List.length (([] : List Bool) ++ x1)) + (List.length (true :: ([] : List Bool)))) ≤ (lim 1))) (
          test (decide (((List.length ((([] : List Bool) ++ x1) ++ (true :: ([] : List Bool)))) + (List.length x1)) ≤ (lim 1))) (
           test (all.pre ((x5, (x6, (x7, (x8, (x9, (x10, (x11, (x12, (x13, (x14, (x15, (x16, (x17, (x18, (x19, (x20, (x21, (x22, (x23, (x24, (x25, (x26, x27)))))))))))))))))))))), ((0 : Int), ((((([] : List Bool) ++ x1) ++ (true :: ([] : List Bool))) ++ x1), Unit.unit)))) (
            test (Bool.not (decide (x12 = (0 : Int)))) (
             cond (((allP (x5, (x6, (x7, (x8, (x9, (x10, (x11, (x12, (x13, (x14, (x15, (x16, (x17, (x18, (x19, (x20, (x21, (x22, (x23, (x24, (x25, (x26, x27)))))))))))))))))))))) (0 : Int) x1)).2 == (IntKind.i64.wrap (Int.tdiv x0 x12))) (
              test (Bool.not (decide (x12 = (0 : Int)))) (
               cond (((allP (x5, (x6, (x7, (x8, (x9, (x10, (x11, (x12, (x13, (x14, (x15, (x16, (x17, (x18, (x19, (x20, (x21, (x22, (x23, (x24, (x25, (x26, x27)))))))))))))))))))))) (0 : Int) x1)).1 == (Int.tmod x0 x12)) (
                cond (((allP (x5, (x6, (x7, (x8, (x9, (x10, (x11, (x12, (x13, (x14, (x15, (x16, (x17, (x18, (x19, (x20, (x21, (x22, (x23, (x24, (x25, (x26, x27)))))))))))))))))))))) (0 : Int) (((([] : List Bool) ++ x1) ++ (true :: ([] : List Bool))) ++ x1))).1 == ((allP (x5, (x6, (x7, (x8, (x9, (x10, (x11, (x12, (x13, (x14, (x15, (x16, (x17, (x18, (x19, (x20, (x21, (x22, (x23, (x24, (x25, (x26, x27)))))))))))))))))))))) (0 : Int) x1)).1) (
                 cond (((allP (x5, (x6, (x7, (x8, (x9, (x10, (x11, (x12, (x13, (x14, (x15, (x16, (x17, (x18, (x19, (x20, (x21, (x22, (x23, (x24, (x25, (x26, x27)))))))))))))))))))))) (0 : Int) (((([] : List Bool) ++ x1) ++ (true :: ([] : List Bool))) ++ x1))).2 == (IntKind.i64.wrap ((2 : Int) * ((allP (x5, (x6, (x7, (x8, (x9, (x10, (x11, (x12, (x13, (x14, (x15, (x16, (x17, (x18, (x19, (x20, (x21, (x22, (x23, (x24, (x25, (x26, x27)))))))))))))))))))))) (0 : Int) x1)).2))) (
                  some ((.c (.v (.bool true))), [])) (
                  some ((.c (.v (.bool false))), []))) (
                 some ((.c (.v (.bool false))), []))) (
                some ((.c (.v (.bool false))), [])))) (
              some ((.c (.v (.bool false))), []))))))))))))) := by kernel_rfl
theorem lOnce.run_eq  (m : Nat) (x0 : (El TConfig)) (x1 : Int) (x2 : Int) : run (lOnce.cfg ) Try.f4.ntmps Try.f4.results.toList m [.code (bodyOf Try.f4)] (enter (ivA lOnce.ps (x0, x1, x2, ()))) = lOnce.go  m x0 x1 x2 := by kernel_rfl
theorem lOnce.ret  (hs : SpecsOK Try.prog (lOnce.specs ))  (x0 : (El TConfig)) (x1 : Int) (x2 : Int) {m : Nat} {r : IV} (h : lOnce.go  m x0 x1 x2 = some (r, [])) : VE.Returns Try.prog 4 (ivA lOnce.ps (x0, x1, x2, ())) r :=
  returns_of_run (cfg := lOnce.cfg ) (cfgOK_of mixed tab_ok hs .nil) rfl Try.func4 (body_some (by kernel_rfl)) (Nat.le_of_ble_eq_true (by kernel_rfl)) ((lOnce.run_eq  m x0 x1 x2).trans h)
abbrev lOnce.Law : Prop := ∀ (x0 : (El TConfig)) (x1 : Int) (x2 : Int), lOnce.pre (x0, x1, x2, ()) = true → VE.Returns Try.prog 4 (ivA lOnce.ps (x0, x1, x2, ())) (lOnce.res (x0, x1, x2, ()))
theorem lOnce.mkR (H : ∀ (x0 : (El TConfig)) (x1 : Int) (x2 : Int), lOnce.pre (x0, x1, x2, ()) = true → VE.Returns Try.prog 4 (ivA lOnce.ps (x0, x1, x2, ())) (lOnce.res (x0, x1, x2, ()))) : SpecOK Try.prog 4 lOnce.sp :=
  specOf_ret Try.func4 (by kernel_rfl) (by kernel_rfl) fun (x : (El TConfig) × Int × Int × Unit) hx => H (x.1) (x.2.1) (x.2.2.1) hx
theorem lOnce.mk  (hs : SpecsOK Try.prog (lOnce.specs ))  (H : ∀ (x0 : (El TConfig)) (x1 : Int) (x2 : Int), lOnce.pre (x0, x1, x2, ()) = true → ∃ m, lOnce.go  m x0 x1 x2 = some (lOnce.res (x0, x1, x2, ()), [])) : SpecOK Try.prog 4 lOnce.sp :=
  lOnce.mkR fun x0 x1 x2 hx => (H x0 x1 x2 hx).elim fun _ hm => lOnce.ret  hs  x0 x1 x2 hm

/-! ### triage/triagelaw11.StreakParts -/
abbrev lParts.ps : List AK := [.d true TConfig, .d false (.int .i64), .d false (.sl .bool), .d false (.int .i64)]
def lParts.pre : ElA lParts.ps → Bool := fun (x : (El TConfig) × Int × (List Bool) × Int × Unit) => fits TConfig (x.1) && (fits (.int .i64) (x.2.1) && (fits (.sl .bool) (x.2.2.1) && (fits (.int .i64) (x.2.2.2.1) && (true))))
def lParts.res : ElA lParts.ps → IV := fun (x : (El TConfig) × Int × (List Bool) × Int × Unit) => (fun _ _ _ _ => vb true) x.1 x.2.1 x.2.2.1 x.2.2.2.1
def lParts.sp : ISpec := spOf lParts.ps lParts.pre lParts.res
abbrev lParts.OK : Prop := SpecOK Try.prog 5 lParts.sp
noncomputable def lParts.body : Code := bodyOf Try.f5
noncomputable def lParts.rs : List ResultVar := Try.f5.results.toList
def lParts.live : List (Nat × Live) := []
noncomputable def lParts.specs  : List (Nat × (List Bool × ISpec)) := [(6, ([], awake.sp)), (9, ([], all.sp)), (10, ([], mayCR.sp)), (11, ([], heldR.sp))]
noncomputable def lParts.ospecs  : List (Nat × OS) := []
noncomputable def lParts.cfg  : Cfg := ⟨lkp tab, lkp (lParts.specs ), lkp lParts.live, ⟨lkp (lParts.ospecs ), [], none⟩⟩
noncomputable def lParts.go  (m : Nat) (x0 : (El TConfig)) (x1 : Int) (x2 : (List Bool)) (x3 : Int) : R := run (lParts.cfg ) 77 lParts.rs m [.code lParts.body] (enter (ivA lParts.ps (x0, x1, x2, x3, ())))
theorem lParts.start  (m : Nat) (x0 : (El TConfig)) (x1 : Int) (x2 : (List Bool)) (x3 : Int) : lParts.go  (m + 1) x0 x1 x2 x3 =
  cond (decide (((List.length x2) : Int) > (200 : Int))) (
   some ((.c (.v (.bool true))), [])) (
   cond (decide (((ByteArray.size x0.2.2.2.2.2.2.2.2.2.2.2.2.2.2.2.2.2.2.2.2.2.1) : Int) > (100 : Int))) (
    some ((.c (.v (.bool true))), [])) (
    test (Bool.not (decide ((IntKind.u64.wrap (IntKind.i64.wrap (((List.length x2) : Int) + (1 : Int)))) = (0 : Int)))) (
     test (decide ((0 : Int) ≤ (IntKind.i64.wrap (Int.tmod (IntKind.u64.wrap x3) (IntKind.u64.wrap (IntKind.i64.wrap (((List.length x2) : Int) + (1 : Int)))))))) (
      test (decide ((IntKind.i64.wrap (Int.tmod (IntKind.u64.wrap x3) (IntKind.u64.wrap (IntKind.i64.wrap (((List.length x2) : Int) + (1 : Int)))))) ≤ ((List.length x2) : Int))) (
       test (all.pre (x0, (x1, ((List.drop 0 (List.take (Int.toNat (IntKind.i64.wrap (Int.tmod (IntKind.u64.wrap x3) (IntKind.u64.wrap (IntKind.i64.wrap (((List.length x2) : Int) + (1 : Int))))))) x2)), Unit.unit)))) (
        test (decide ((0 : Int) ≤ (IntKind.i64.wrap (Int.tmod (IntKind.u64.wrap x3) (IntKind.u64.wrap (IntKind.i64.wrap (((List.length x2) : Int) + (1 : Int)))))))) (
         test (decide ((IntKind.i64.wrap (Int.tmod (IntKind.u64.wrap x3) (IntKind.u64.wrap (IntKind.i64.wrap (((List.length x2) : Int) + (1 : Int)))))) ≤ ((List.length x2) : Int))) (
          test (all.pre (x0, (((allP x0 x1 (List.drop 0 (List.take (Int.toNat (IntKind.i64.wrap (Int.tmod (IntKind.u64.wrap x3) (IntKind.u64.wrap (IntKind.i64.wrap (((List.length x2) : Int) + (1 : Int))))))) x2)))).1, ((List.drop (Int.toNat (IntKind.i64.wrap (Int.tmod (IntKind.u64.wrap x3) (IntKind.u64.wrap (IntKind.i64.wrap (((List.length x2) : Int) + (1 : Int))))))) (List.take (List.length x2) x2)), Unit.unit)))) (
           test (all.pre (x0, (x1, (x2, Unit.unit)))) (
            cond (((allP x0 ((allP x0 x1 (List.drop 0 (List.take (Int.toNat (IntKind.i64.wrap (Int.tmod (IntKind.u64.wrap x3) (IntKind.u64.wrap (IntKind.i64.wrap (((List.length x2) : Int) + (1 : Int))))))) x2)))).1 (List.drop (Int.toNat (IntKind.i64.wrap (Int.tmod (IntKind.u64.wrap x3) (IntKind.u64.wrap (IntKind.i64.wrap (((List.length x2) : Int) + (1 : Int))))))) (List.take (List.length x2) x2)))).1 == ((allP x0 x1 x2)).1) (
             cond ((IntKind.i64.wrap (((allP x0 x1 (List.drop 0 (List.take (Int.toNat (IntKind.i64.wrap (Int.tmod (IntKind.u64.wrap x3) (IntKind.u64.wrap (IntKind.i64.wrap (((List.length x2) : Int) + (1 : Int))))))) x2)))).2 + ((allP x0 ((allP x0 x1 (List.drop 0 (List.take (Int.toNat (IntKind.i64.wrap (Int.tmod (IntKind.u64.wrap x3) (IntKind.u64.wrap (IntKind.i64.wrap (((List.length x2) : Int) + (1 : Int))))))) x2)))).1 (List.drop (Int.toNat (IntKind.i64.wrap (Int.tmod (IntKind.u64.wrap x3) (IntKind.u64.wrap (IntKind.i64.wrap (((List.length x2) : Int) + (1 : Int))))))) (List.take (List.length x2) x2)))).2)) == ((allP x0 x1 x2)).2) (
              test (heldR.pre (x0, Unit.unit)) (
               test (mayCR.pre (((heldC x0)), Unit.unit)) (
                cond (mayC ((heldC x0))) (
                 some ((.c (.v (.bool true))), [])) (
                 some ((.c (.v (.bool false))), []))))) (
              some ((.c (.v (.bool false))), []))) (
             some ((.c (.v (.bool false))), [])))))))))))) := by kernel_rfl
theorem lParts.run_eq  (m : Nat) (x0 : (El TConfig)) (x1 : Int) (x2 : (List Bool)) (x3 : Int) : run (lParts.cfg ) Try.f5.ntmps Try.f5.results.toList m [.code (bodyOf Try.f5)] (enter (ivA lParts.ps (x0, x1, x2, x3, ()))) = lParts.go  m x0 x1 x2 x3 := by kernel_rfl
theorem lParts.ret  (hs : SpecsOK Try.prog (lParts.specs ))  (x0 : (El TConfig)) (x1 : Int) (x2 : (List Bool)) (x3 : Int) {m : Nat} {r : IV} (h : lParts.go  m x0 x1 x2 x3 = some (r, [])) : VE.Returns Try.prog 5 (ivA lParts.ps (x0, x1, x2, x3, ())) r :=
  returns_of_run (cfg := lParts.cfg ) (cfgOK_of mixed tab_ok hs .nil) rfl Try.func5 (body_some (by kernel_rfl)) (Nat.le_of_ble_eq_true (by kernel_rfl)) ((lParts.run_eq  m x0 x1 x2 x3).trans h)
abbrev lParts.Law : Prop := ∀ (x0 : (El TConfig)) (x1 : Int) (x2 : (List Bool)) (x3 : Int), lParts.pre (x0, x1, x2, x3, ()) = true → VE.Returns Try.prog 5 (ivA lParts.ps (x0, x1, x2, x3, ())) (lParts.res (x0, x1, x2, x3, ()))
theorem lParts.mkR (H : ∀ (x0 : (El TConfig)) (x1 : Int) (x2 : (List Bool)) (x3 : Int), lParts.pre (x0, x1, x2, x3, ()) = true → VE.Returns Try.prog 5 (ivA lParts.ps (x0, x1, x2, x3, ())) (lParts.res (x0, x1, x2, x3, ()))) : SpecOK Try.prog 5 lParts.sp :=
  specOf_ret Try.func5 (by kernel_rfl) (by kernel_rfl) fun (x : (El TConfig) × Int × (List Bool) × Int × Unit) hx => H (x.1) (x.2.1) (x.2.2.1) (x.2.2.2.1) hx
theorem lParts.mk  (hs : SpecsOK Try.prog (lParts.specs ))  (H : ∀ (x0 : (El TConfig)) (x1 : Int) (x2 : (List Bool)) (x3 : Int), lParts.pre (x0, x1, x2, x3, ()) = true → ∃ m, lParts.go  m x0 x1 x2 x3 = some (lParts.res (x0, x1, x2, x3, ()), [])) : SpecOK Try.prog 5 lParts.sp :=
  lParts.mkR fun x0 x1 x2 x3 hx => (H x0 x1 x2 x3 hx).elim fun _ hm => lParts.ret  hs  x0 x1 x2 x3 hm

end Go.Proofs.Ytaikjghfccenfaa
