/-
  Steps of the bodies, from checkpoint to checkpoint (printed by wip/VE/mk2.py).
-/
import Derived.Test.YtlakpbfmcnlnbaaDoorLA
namespace Go.Proofs.YtlakpbfmcnlnbaaDoor
open Go VE

/-! ### internal/stringslite.Index -/
abbrev index.ps : List AK := [.d false .str, .d false .str]
def index.pre : ElA index.ps → Bool := fun (x : ByteArray × ByteArray × Unit) => fits .str (x.1) && (fits .str (x.2.1) && ((fun _ c => decide (c = hashB)) x.1 x.2.1 && (true)))
noncomputable def index.res : ElA index.ps → IV := fun (x : ByteArray × ByteArray × Unit) => (fun s _ => vi .i64 (indexB s)) x.1 x.2.1
noncomputable def index.sp : ISpec := spOf index.ps index.pre index.res
abbrev index.OK : Prop := SpecOK Tryd.prog 53 index.sp
theorem index.mkR (H : ∀ (x0 : ByteArray) (x1 : ByteArray), index.pre (x0, x1, ()) = true → VE.Returns Tryd.prog 53 (ivA index.ps (x0, x1, ())) (index.res (x0, x1, ()))) : SpecOK Tryd.prog 53 index.sp :=
  specOf_ret Tryd.func53 (by kernel_rfl) (by kernel_rfl) fun (x : ByteArray × ByteArray × Unit) hx => H (x.1) (x.2.1) hx

/-! ### internal/stringslite.Cut -/
abbrev scut.ps : List AK := [.d false .str, .d false .str]
def scut.pre : ElA scut.ps → Bool := fun (x : ByteArray × ByteArray × Unit) => fits .str (x.1) && (fits .str (x.2.1) && ((fun _ c => decide (c = hashB)) x.1 x.2.1 && (true)))
noncomputable def scut.res : ElA scut.ps → IV := fun (x : ByteArray × ByteArray × Unit) => (fun s _ => .tup [vs (cutA s), vs (cutZ s), vb (cutF s)]) x.1 x.2.1
noncomputable def scut.sp : ISpec := spOf scut.ps scut.pre scut.res
abbrev scut.OK : Prop := SpecOK Tryd.prog 48 scut.sp
noncomputable def scut.body : Code := bodyOf Tryd.f48
noncomputable def scut.rs : List ResultVar := Tryd.f48.results.toList
def scut.live : List (Nat × Live) := []
noncomputable def scut.specs  : List (Nat × (List Bool × ISpec)) := [(53, ([], index.sp))]
noncomputable def scut.ospecs  : List (Nat × OS) := []
noncomputable def scut.cfg  : Cfg := ⟨lkp tab, lkp (scut.specs ), lkp scut.live, ⟨lkp (scut.ospecs ), [], none, false, []⟩⟩
noncomputable def scut.go  (m : Nat) (x0 : ByteArray) (x1 : ByteArray) : R := run (scut.cfg ) 23 scut.rs m [.code scut.body] (enter (ivA scut.ps (x0, x1, ())))
theorem scut.start  (m : Nat) (x0 : ByteArray) (x1 : ByteArray) : scut.go  (m + 1) x0 x1 =
  test (index.pre (x0, (x1, Unit.unit))) (
   cond (decide ((indexB x0) ≥ (0 : Int))) (
    test (decide ((0 : Int) ≤ (indexB x0))) (
     test (decide ((indexB x0) ≤ ((ByteArray.size x0) : Int))) (
      test (decide ((0 : Int) ≤ (IntKind.i64.wrap ((indexB x0) + ((ByteArray.size x1) : Int))))) (
       test (decide ((IntKind.i64.wrap ((indexB x0) + ((ByteArray.size x1) : Int))) ≤ ((ByteArray.size x0) : Int))) (
        some ((.tup [(.c (.v (.string (ByteArray.extract x0 0 (Int.toNat (indexB x0)))))), (.c (.v (.string (ByteArray.extract x0 (Int.toNat (IntKind.i64.wrap ((indexB x0) + ((ByteArray.size x1) : Int)))) (ByteArray.size x0))))), (.c (.v (.bool true)))]), [])))))) (
    some ((.tup [(.c (.v (.string x0))), (.c (.v (.string (⟨#[]⟩ : ByteArray)))), (.c (.v (.bool false)))]), []))) := by kernel_rfl
theorem scut.run_eq  (m : Nat) (x0 : ByteArray) (x1 : ByteArray) : run (scut.cfg ) Tryd.f48.ntmps Tryd.f48.results.toList m [.code (bodyOf Tryd.f48)] (enter (ivA scut.ps (x0, x1, ()))) = scut.go  m x0 x1 := by kernel_rfl
theorem scut.ret  (hs : SpecsOK Tryd.prog (scut.specs ))  (x0 : ByteArray) (x1 : ByteArray) {m : Nat} {r : IV} (h : scut.go  m x0 x1 = some (r, [])) : VE.Returns Tryd.prog 48 (ivA scut.ps (x0, x1, ())) r :=
  returns_of_run (cfg := scut.cfg ) (cfgOK_of mixed tab_ok hs .nil) rfl Tryd.func48 (body_some (by kernel_rfl)) (Nat.le_of_ble_eq_true (by kernel_rfl)) ((scut.run_eq  m x0 x1).trans h)
abbrev scut.Law : Prop := ∀ (x0 : ByteArray) (x1 : ByteArray), scut.pre (x0, x1, ()) = true → VE.Returns Tryd.prog 48 (ivA scut.ps (x0, x1, ())) (scut.res (x0, x1, ()))
theorem scut.mkR (H : ∀ (x0 : ByteArray) (x1 : ByteArray), scut.pre (x0, x1, ()) = true → VE.Returns Tryd.prog 48 (ivA scut.ps (x0, x1, ())) (scut.res (x0, x1, ()))) : SpecOK Tryd.prog 48 scut.sp :=
  specOf_ret Tryd.func48 (by kernel_rfl) (by kernel_rfl) fun (x : ByteArray × ByteArray × Unit) hx => H (x.1) (x.2.1) hx
theorem scut.mk  (hs : SpecsOK Tryd.prog (scut.specs ))  (H : ∀ (x0 : ByteArray) (x1 : ByteArray), scut.pre (x0, x1, ()) = true → ∃ m, scut.go  m x0 x1 = some (scut.res (x0, x1, ()), [])) : SpecOK Tryd.prog 48 scut.sp :=
  scut.mkR fun x0 x1 hx => (H x0 x1 hx).elim fun _ hm => scut.ret  hs  x0 x1 hm

/-! ### strings.Cut -/
abbrev cut.ps : List AK := [.d false .str, .d false .str]
def cut.pre : ElA cut.ps → Bool := fun (x : ByteArray × ByteArray × Unit) => fits .str (x.1) && (fits .str (x.2.1) && ((fun _ c => decide (c = hashB)) x.1 x.2.1 && (true)))
noncomputable def cut.res : ElA cut.ps → IV := fun (x : ByteArray × ByteArray × Unit) => (fun s _ => .tup [vs (cutA s), vs (cutZ s), vb (cutF s)]) x.1 x.2.1
noncomputable def cut.sp : ISpec := spOf cut.ps cut.pre cut.res
abbrev cut.OK : Prop := SpecOK Tryd.prog 45 cut.sp
noncomputable def cut.body : Code := bodyOf Tryd.f45
noncomputable def cut.rs : List ResultVar := Tryd.f45.results.toList
def cut.live : List (Nat × Live) := []
noncomputable def cut.specs  : List (Nat × (List Bool × ISpec)) := [(48, ([], scut.sp))]
noncomputable def cut.ospecs  : List (Nat × OS) := []
noncomputable def cut.cfg  : Cfg := ⟨lkp tab, lkp (cut.specs ), lkp cut.live, ⟨lkp (cut.ospecs ), [], none, false, []⟩⟩
noncomputable def cut.go  (m : Nat) (x0 : ByteArray) (x1 : ByteArray) : R := run (cut.cfg ) 13 cut.rs m [.code cut.body] (enter (ivA cut.ps (x0, x1, ())))
theorem cut.start  (m : Nat) (x0 : ByteArray) (x1 : ByteArray) : cut.go  (m + 1) x0 x1 =
  test (scut.pre (x0, (x1, Unit.unit))) (
   some ((.tup [(.c (.v (.string (cutA x0)))), (.c (.v (.string (cutZ x0)))), (.c (.v (.bool (cutF x0))))]), [])) := by kernel_rfl
theorem cut.run_eq  (m : Nat) (x0 : ByteArray) (x1 : ByteArray) : run (cut.cfg ) Tryd.f45.ntmps Tryd.f45.results.toList m [.code (bodyOf Tryd.f45)] (enter (ivA cut.ps (x0, x1, ()))) = cut.go  m x0 x1 := by kernel_rfl
theorem cut.ret  (hs : SpecsOK Tryd.prog (cut.specs ))  (x0 : ByteArray) (x1 : ByteArray) {m : Nat} {r : IV} (h : cut.go  m x0 x1 = some (r, [])) : VE.Returns Tryd.prog 45 (ivA cut.ps (x0, x1, ())) r :=
  returns_of_run (cfg := cut.cfg ) (cfgOK_of mixed tab_ok hs .nil) rfl Tryd.func45 (body_some (by kernel_rfl)) (Nat.le_of_ble_eq_true (by kernel_rfl)) ((cut.run_eq  m x0 x1).trans h)
abbrev cut.Law : Prop := ∀ (x0 : ByteArray) (x1 : ByteArray), cut.pre (x0, x1, ()) = true → VE.Returns Tryd.prog 45 (ivA cut.ps (x0, x1, ())) (cut.res (x0, x1, ()))
theorem cut.mkR (H : ∀ (x0 : ByteArray) (x1 : ByteArray), cut.pre (x0, x1, ()) = true → VE.Returns Tryd.prog 45 (ivA cut.ps (x0, x1, ())) (cut.res (x0, x1, ()))) : SpecOK Tryd.prog 45 cut.sp :=
  specOf_ret Tryd.func45 (by kernel_rfl) (by kernel_rfl) fun (x : ByteArray × ByteArray × Unit) hx => H (x.1) (x.2.1) hx
theorem cut.mk  (hs : SpecsOK Tryd.prog (cut.specs ))  (H : ∀ (x0 : ByteArray) (x1 : ByteArray), cut.pre (x0, x1, ()) = true → ∃ m, cut.go  m x0 x1 = some (cut.res (x0, x1, ()), [])) : SpecOK Tryd.prog 45 cut.sp :=
  cut.mkR fun x0 x1 hx => (H x0 x1 hx).elim fun _ hm => cut.ret  hs  x0 x1 hm

/-! ### triage/lines.may -/
abbrev may.ps : List AK := [.d false .str]
def may.pre : ElA may.ps → Bool := fun (x : ByteArray × Unit) => fits .str (x.1) && (true)
noncomputable def may.res : ElA may.ps → IV := fun (x : ByteArray × Unit) => (fun s => vb (mayB s)) x.1
noncomputable def may.sp : ISpec := spOf may.ps may.pre may.res
abbrev may.OK : Prop := SpecOK Tryd.prog 37 may.sp
noncomputable def may.body : Code := bodyOf Tryd.f37
noncomputable def may.rs : List ResultVar := Tryd.f37.results.toList
def may.live : List (Nat × Live) := [(2, ⟨[(0, .plain), (5, .plain), (6, .plain)], []⟩)]
noncomputable def may.specs  : List (Nat × (List Bool × ISpec)) := []
noncomputable def may.ospecs  : List (Nat × OS) := []
noncomputable def may.cfg  : Cfg := ⟨lkp tab, lkp (may.specs ), lkp may.live, ⟨lkp (may.ospecs ), [], none, false, []⟩⟩
noncomputable def may.l1  (m : Nat) (x0 : ByteArray) (x1 : Int) (x2 : Int) : R := run (may.cfg ) 23 may.rs m ((todoR 2 may.body []).getD []) ⟨ofList (.c .junk) [(0, (.c (.v (.string x0)))), (5, (.c (.v (.int .i64 x1)))), (6, (.c (.v (.int .i64 x2))))], ofList none [], ofList false []⟩
noncomputable def may.go  (m : Nat) (x0 : ByteArray) : R := run (may.cfg ) 23 may.rs m [.code may.body] (enter (ivA may.ps (x0, ())))
theorem may.start  (m : Nat) (x0 : ByteArray) : may.go  (m + 1) x0 =
  may.l1  m x0 ((ByteArray.size x0) : Int) (0 : Int) := by kernel_rfl
theorem may.s1  (m : Nat) (x0 : ByteArray) (x1 : Int) (x2 : Int) : may.l1  (m + 1) x0 x1 x2 =
  cond (decide (x2 < x1)) (
   test (decide ((0 : Int) ≤ x2)) (
    test (decide (x2 < ((ByteArray.size x0) : Int))) (
     cond (decide ((byteAt x0 x2) < (32 : Int))) (
      some ((.c (.v (.bool false))), [])) (
      test (decide ((0 : Int) ≤ x2)) (
       test (decide (x2 < ((ByteArray.size x0) : Int))) (
        cond (decide ((byteAt x0 x2) > (126 : Int))) (
         some ((.c (.v (.bool false))), [])) (
         may.l1  m x0 x1 (IntKind.i64.wrap (x2 + (1 : Int)))))))))) (
   some ((.c (.v (.bool (decide (((ByteArray.size x0) : Int) ≤ (200 : Int)))))), [])) := by kernel_rfl
theorem may.run_eq  (m : Nat) (x0 : ByteArray) : run (may.cfg ) Tryd.f37.ntmps Tryd.f37.results.toList m [.code (bodyOf Tryd.f37)] (enter (ivA may.ps (x0, ()))) = may.go  m x0 := by kernel_rfl
theorem may.ret  (hs : SpecsOK Tryd.prog (may.specs ))  (x0 : ByteArray) {m : Nat} {r : IV} (h : may.go  m x0 = some (r, [])) : VE.Returns Tryd.prog 37 (ivA may.ps (x0, ())) r :=
  returns_of_run (cfg := may.cfg ) (cfgOK_of mixed tab_ok hs .nil) rfl Tryd.func37 (body_some (by kernel_rfl)) (Nat.le_of_ble_eq_true (by kernel_rfl)) ((may.run_eq  m x0).trans h)
abbrev may.Law : Prop := ∀ (x0 : ByteArray), may.pre (x0, ()) = true → VE.Returns Tryd.prog 37 (ivA may.ps (x0, ())) (may.res (x0, ()))
theorem may.mkR (H : ∀ (x0 : ByteArray), may.pre (x0, ()) = true → VE.Returns Tryd.prog 37 (ivA may.ps (x0, ())) (may.res (x0, ()))) : SpecOK Tryd.prog 37 may.sp :=
  specOf_ret Tryd.func37 (by kernel_rfl) (by kernel_rfl) fun (x : ByteArray × Unit) hx => H (x.1) hx
theorem may.mk  (hs : SpecsOK Tryd.prog (may.specs ))  (H : ∀ (x0 : ByteArray), may.pre (x0, ()) = true → ∃ m, may.go  m x0 = some (may.res (x0, ()), [])) : SpecOK Tryd.prog 37 may.sp :=
  may.mkR fun x0 hx => (H x0 hx).elim fun _ hm => may.ret  hs  x0 hm

/-! ### triage/lines.Number -/
abbrev number.ps : List AK := [.d false .str]
def number.pre : ElA number.ps → Bool := fun (x : ByteArray × Unit) => fits .str (x.1) && (true)
noncomputable def number.res : ElA number.ps → IV := fun (x : ByteArray × Unit) => (fun s => .tup [vi .i64 (numB s).1, vb (numB s).2]) x.1
noncomputable def number.sp : ISpec := spOf number.ps number.pre number.res
abbrev number.OK : Prop := SpecOK Tryd.prog 40 number.sp
noncomputable def number.body : Code := bodyOf Tryd.f40
noncomputable def number.rs : List ResultVar := Tryd.f40.results.toList
def number.live : List (Nat × Live) := [(5, ⟨[(0, .plain), (4, .plain), (24, .plain), (25, .plain)], []⟩)]
noncomputable def number.specs  : List (Nat × (List Bool × ISpec)) := []
noncomputable def number.ospecs  : List (Nat × OS) := []
noncomputable def number.cfg  : Cfg := ⟨lkp tab, lkp (number.specs ), lkp number.live, ⟨lkp (number.ospecs ), [], none, false, []⟩⟩
noncomputable def number.l1  (m : Nat) (x0 : ByteArray) (x1 : Int) (x2 : Int) (x3 : Int) : R := run (number.cfg ) 50 number.rs m ((todoR 5 number.body []).getD []) ⟨ofList (.c .junk) [(0, (.c (.v (.string x0)))), (4, (.c (.v (.int .i64 x1)))), (24, (.c (.v (.int .i64 x2)))), (25, (.c (.v (.int .i64 x3))))], ofList none [], ofList false []⟩
noncomputable def number.go  (m : Nat) (x0 : ByteArray) : R := run (number.cfg ) 50 number.rs m [.code number.body] (enter (ivA number.ps (x0, ())))
theorem number.start  (m : Nat) (x0 : ByteArray) : number.go  (m + 1) x0 =
  cond ((ByteArray.toList x0) == (ByteArray.toList (⟨#[]⟩ : ByteArray))) (
   some ((.tup [(.c (.v (.int .i64 (0 : Int)))), (.c (.v (.bool false)))]), [])) (
   cond (decide (((ByteArray.size x0) : Int) > (7 : Int))) (
    some ((.tup [(.c (.v (.int .i64 (0 : Int)))), (.c (.v (.bool false)))]), [])) (
    cond (decide (((ByteArray.size x0) : Int) > (1 : Int))) (
     test (decide ((0 : Int) < ((ByteArray.size x0) : Int))) (
      cond ((byteAt x0 (0 : Int)) == (48 : Int)) (
       some ((.tup [(.c (.v (.int .i64 (0 : Int)))), (.c (.v (.bool false)))]), [])) (
       number.l1  m x0 (0 : Int) ((ByteArray.size x0) : Int) (0 : Int)))) (
     number.l1  m x0 (0 : Int) ((ByteArray.size x0) : Int) (0 : Int)))) := by kernel_rfl
theorem number.s1  (m : Nat) (x0 : ByteArray) (x1 : Int) (x2 : Int) (x3 : Int) : number.l1  (m + 1) x0 x1 x2 x3 =
  cond (decide (x3 < x2)) (
   test (decide ((0 : Int) ≤ x3)) (
    test (decide (x3 < ((ByteArray.size x0) : Int))) (
     cond (decide ((byteAt x0 x3) < (48 : Int))) (
      some ((.tup [(.c (.v (.int .i64 (0 : Int)))), (.c (.v (.bool false)))]), [])) (
      test (decide ((0 : Int) ≤ x3)) (
       test (decide (x3 < ((ByteArray.size x0) : Int))) (
        cond (decide ((byteAt x0 x3) > (57 : Int))) (
         some ((.tup [(.c (.v (.int .i64 (0 : Int)))), (.c (.v (.bool false)))]), [])) (
         test (decide ((0 : Int) ≤ x3)) (
          test (decide (x3 < ((ByteArray.size x0) : Int))) (
           number.l1  m x0 (IntKind.i64.wrap ((IntKind.i64.wrap (x1 * (10 : Int))) + (IntKind.i64.wrap (IntKind.u8.wrap ((byteAt x0 x3) - (48 : Int)))))) x2 (IntKind.i64.wrap (x3 + (1 : Int)))))))))))) (
   cond (decide (x1 > (1000000 : Int))) (
    some ((.tup [(.c (.v (.int .i64 (0 : Int)))), (.c (.v (.bool false)))]), [])) (
    some ((.tup [(.c (.v (.int .i64 x1))), (.c (.v (.bool true)))]), []))) := by kernel_rfl
theorem number.run_eq  (m : Nat) (x0 : ByteArray) : run (number.cfg ) Tryd.f40.ntmps Tryd.f40.results.toList m [.code (bodyOf Tryd.f40)] (enter (ivA number.ps (x0, ()))) = number.go  m x0 := by kernel_rfl
theorem number.ret  (hs : SpecsOK Tryd.prog (number.specs ))  (x0 : ByteArray) {m : Nat} {r : IV} (h : number.go  m x0 = some (r, [])) : VE.Returns Tryd.prog 40 (ivA number.ps (x0, ())) r :=
  returns_of_run (cfg := number.cfg ) (cfgOK_of mixed tab_ok hs .nil) rfl Tryd.func40 (body_some (by kernel_rfl)) (Nat.le_of_ble_eq_true (by kernel_rfl)) ((number.run_eq  m x0).trans h)
abbrev number.Law : Prop := ∀ (x0 : ByteArray), number.pre (x0, ()) = true → VE.Returns Tryd.prog 40 (ivA number.ps (x0, ())) (number.res (x0, ()))
theorem number.mkR (H : ∀ (x0 : ByteArray), number.pre (x0, ()) = true → VE.Returns Tryd.prog 40 (ivA number.ps (x0, ())) (number.res (x0, ()))) : SpecOK Tryd.prog 40 number.sp :=
  specOf_ret Tryd.func40 (by kernel_rfl) (by kernel_rfl) fun (x : ByteArray × Unit) hx => H (x.1) hx
theorem number.mk  (hs : SpecsOK Tryd.prog (number.specs ))  (H : ∀ (x0 : ByteArray), number.pre (x0, ()) = true → ∃ m, number.go  m x0 = some (number.res (x0, ()), [])) : SpecOK Tryd.prog 40 number.sp :=
  number.mkR fun x0 hx => (H x0 hx).elim fun _ hm => number.ret  hs  x0 hm

/-! ### triage/triageref1.Number -/
abbrev numberR.ps : List AK := [.d false .str]
def numberR.pre : ElA numberR.ps → Bool := fun (x : ByteArray × Unit) => fits .str (x.1) && (true)
noncomputable def numberR.res : ElA numberR.ps → IV := fun (x : ByteArray × Unit) => (fun s => .tup [vi .i64 (numB s).1, vb (numB s).2]) x.1
noncomputable def numberR.sp : ISpec := spOf numberR.ps numberR.pre numberR.res
abbrev numberR.OK : Prop := SpecOK Tryd.prog 27 numberR.sp
noncomputable def numberR.body : Code := bodyOf Tryd.f27
noncomputable def numberR.rs : List ResultVar := Tryd.f27.results.toList
def numberR.live : List (Nat × Live) := [(5, ⟨[(0, .plain), (4, .plain), (25, .plain), (26, .plain)], []⟩)]
noncomputable def numberR.specs  : List (Nat × (List Bool × ISpec)) := []
noncomputable def numberR.ospecs  : List (Nat × OS) := []
noncomputable def numberR.cfg  : Cfg := ⟨lkp tab, lkp (numberR.specs ), lkp numberR.live, ⟨lkp (numberR.ospecs ), [], none, false, []⟩⟩
noncomputable def numberR.l1  (m : Nat) (x0 : ByteArray) (x1 : Int) (x2 : Int) (x3 : Int) : R := run (numberR.cfg ) 51 numberR.rs m ((todoR 5 numberR.body []).getD []) ⟨ofList (.c .junk) [(0, (.c (.v (.string x0)))), (4, (.c (.v (.int .i64 x1)))), (25, (.c (.v (.int .i64 x2)))), (26, (.c (.v (.int .i64 x3))))], ofList none [], ofList false []⟩
noncomputable def numberR.go  (m : Nat) (x0 : ByteArray) : R := run (numberR.cfg ) 51 numberR.rs m [.code numberR.body] (enter (ivA numberR.ps (x0, ())))
theorem numberR.start  (m : Nat) (x0 : ByteArray) : numberR.go  (m + 1) x0 =
  cond (decide (((ByteArray.size x0) : Int) < (1 : Int))) (
   some ((.tup [(.c (.v (.int .i64 (0 : Int)))), (.c (.v (.bool false)))]), [])) (
   cond (decide (((ByteArray.size x0) : Int) > (7 : Int))) (
    some ((.tup [(.c (.v (.int .i64 (0 : Int)))), (.c (.v (.bool false)))]), [])) (
    cond (decide (((ByteArray.size x0) : Int) > (1 : Int))) (
     test (decide ((0 : Int) < ((ByteArray.size x0) : Int))) (
      cond ((byteAt x0 (0 : Int)) == (48 : Int)) (
       some ((.tup [(.c (.v (.int .i64 (0 : Int)))), (.c (.v (.bool false)))]), [])) (
       numberR.l1  m x0 (0 : Int) ((ByteArray.size x0) : Int) (0 : Int)))) (
     numberR.l1  m x0 (0 : Int) ((ByteArray.size x0) : Int) (0 : Int)))) := by kernel_rfl
theorem numberR.s1  (m : Nat) (x0 : ByteArray) (x1 : Int) (x2 : Int) (x3 : Int) : numberR.l1  (m + 1) x0 x1 x2 x3 =
  cond (decide (x3 < x2)) (
   test (decide ((0 : Int) ≤ x3)) (
    test (decide (x3 < ((ByteArray.size x0) : Int))) (
     cond (decide ((byteAt x0 x3) < (48 : Int))) (
      some ((.tup [(.c (.v (.int .i64 (0 : Int)))), (.c (.v (.bool false)))]), [])) (
      test (decide ((0 : Int) ≤ x3)) (
       test (decide (x3 < ((ByteArray.size x0) : Int))) (
        cond (decide ((byteAt x0 x3) > (57 : Int))) (
         some ((.tup [(.c (.v (.int .i64 (0 : Int)))), (.c (.v (.bool false)))]), [])) (
         test (decide ((0 : Int) ≤ x3)) (
          test (decide (x3 < ((ByteArray.size x0) : Int))) (
           numberR.l1  m x0 (IntKind.i64.wrap ((IntKind.i64.wrap (x1 * (10 : Int))) + (IntKind.i64.wrap (IntKind.u8.wrap ((byteAt x0 x3) - (48 : Int)))))) x2 (IntKind.i64.wrap (x3 + (1 : Int)))))))))))) (
   cond (decide (x1 > (1000000 : Int))) (
    some ((.tup [(.c (.v (.int .i64 (0 : Int)))), (.c (.v (.bool false)))]), [])) (
    some ((.tup [(.c (.v (.int .i64 x1))), (.c (.v (.bool true)))]), []))) := by kernel_rfl
theorem numberR.run_eq  (m : Nat) (x0 : ByteArray) : run (numberR.cfg ) Tryd.f27.ntmps Tryd.f27.results.toList m [.code (bodyOf Tryd.f27)] (enter (ivA numberR.ps (x0, ()))) = numberR.go  m x0 := by kernel_rfl
theorem numberR.ret  (hs : SpecsOK Tryd.prog (numberR.specs ))  (x0 : ByteArray) {m : Nat} {r : IV} (h : numberR.go  m x0 = some (r, [])) : VE.Returns Tryd.prog 27 (ivA numberR.ps (x0, ())) r :=
  returns_of_run (cfg := numberR.cfg ) (cfgOK_of mixed tab_ok hs .nil) rfl Tryd.func27 (body_some (by kernel_rfl)) (Nat.le_of_ble_eq_true (by kernel_rfl)) ((numberR.run_eq  m x0).trans h)
abbrev numberR.Law : Prop := ∀ (x0 : ByteArray), numberR.pre (x0, ()) = true → VE.Returns Tryd.prog 27 (ivA numberR.ps (x0, ())) (numberR.res (x0, ()))
theorem numberR.mkR (H : ∀ (x0 : ByteArray), numberR.pre (x0, ()) = true → VE.Returns Tryd.prog 27 (ivA numberR.ps (x0, ())) (numberR.res (x0, ()))) : SpecOK Tryd.prog 27 numberR.sp :=
  specOf_ret Tryd.func27 (by kernel_rfl) (by kernel_rfl) fun (x : ByteArray × Unit) hx => H (x.1) hx
theorem numberR.mk  (hs : SpecsOK Tryd.prog (numberR.specs ))  (H : ∀ (x0 : ByteArray), numberR.pre (x0, ()) = true → ∃ m, numberR.go  m x0 = some (numberR.res (x0, ()), [])) : SpecOK Tryd.prog 27 numberR.sp :=
  numberR.mkR fun x0 hx => (H x0 hx).elim fun _ hm => numberR.ret  hs  x0 hm

/-! ### triage/lines.Name -/
abbrev nameW.ps : List AK := [.d false .str]
def nameW.pre : ElA nameW.ps → Bool := fun (x : ByteArray × Unit) => fits .str (x.1) && (true)
noncomputable def nameW.res : ElA nameW.ps → IV := fun (x : ByteArray × Unit) => (fun s => vb (nameB s)) x.1
noncomputable def nameW.sp : ISpec := spOf nameW.ps nameW.pre nameW.res
abbrev nameW.OK : Prop := SpecOK Tryd.prog 35 nameW.sp
noncomputable def nameW.body : Code := bodyOf Tryd.f35
noncomputable def nameW.rs : List ResultVar := Tryd.f35.results.toList
def nameW.live : List (Nat × Live) := [(2, ⟨[(0, .plain), (6, .plain), (7, .plain)], []⟩)]
noncomputable def nameW.specs  : List (Nat × (List Bool × ISpec)) := []
noncomputable def nameW.ospecs  : List (Nat × OS) := []
noncomputable def nameW.cfg  : Cfg := ⟨lkp tab, lkp (nameW.specs ), lkp nameW.live, ⟨lkp (nameW.ospecs ), [], none, false, []⟩⟩
noncomputable def nameW.l1  (m : Nat) (x0 : ByteArray) (x1 : Int) (x2 : Int) : R := run (nameW.cfg ) 48 nameW.rs m ((todoR 2 nameW.body []).getD []) ⟨ofList (.c .junk) [(0, (.c (.v (.string x0)))), (6, (.c (.v (.int .i64 x1)))), (7, (.c (.v (.int .i64 x2))))], ofList none [], ofList false []⟩
noncomputable def nameW.go  (m : Nat) (x0 : ByteArray) : R := run (nameW.cfg ) 48 nameW.rs m [.code nameW.body] (enter (ivA nameW.ps (x0, ())))
theorem nameW.start  (m : Nat) (x0 : ByteArray) : nameW.go  (m + 1) x0 =
  nameW.l1  m x0 ((ByteArray.size x0) : Int) (0 : Int) := by kernel_rfl
theorem nameW.s1  (m : Nat) (x0 : ByteArray) (x1 : Int) (x2 : Int) : nameW.l1  (m + 1) x0 x1 x2 =
  cond (decide (x2 < x1)) (
   test (decide ((0 : Int) ≤ x2)) (
    test (decide (x2 < ((ByteArray.size x0) : Int))) (
     cond (decide ((byteAt x0 x2) < (97 : Int))) (
      cond (decide ((byteAt x0 x2) < (48 : Int))) (
       cond (bne (byteAt x0 x2) (45 : Int)) (
        cond (bne (byteAt x0 x2) (46 : Int)) (
         some ((.c (.v (.bool false))), [])) (
         nameW.l1  m x0 x1 (IntKind.i64.wrap (x2 + (1 : Int))))) (
        nameW.l1  m x0 x1 (IntKind.i64.wrap (x2 + (1 : Int))))) (
       cond (decide ((byteAt x0 x2) > (57 : Int))) (
        cond (bne (byteAt x0 x2) (45 : Int)) (
         cond (bne (byteAt x0 x2) (46 : Int)) (
          some ((.c (.v (.bool false))), [])) (
          nameW.l1  m x0 x1 (IntKind.i64.wrap (x2 + (1 : Int))))) (
         nameW.l1  m x0 x1 (IntKind.i64.wrap (x2 + (1 : Int))))) (
        nameW.l1  m x0 x1 (IntKind.i64.wrap (x2 + (1 : Int)))))) (
      cond (decide ((byteAt x0 x2) > (122 : Int))) (
       cond (decide ((byteAt x0 x2) < (48 : Int))) (
        cond (bne (byteAt x0 x2) (45 : Int)) (
         cond (bne (byteAt x0 x2) (46 : Int)) (
          some ((.c (.v (.bool false))), [])) (
          nameW.l1  m x0 x1 (IntKind.i64.wrap (x2 + (1 : Int))))) (
         nameW.l1  m x0 x1 (IntKind.i64.wrap (x2 + (1 : Int))))) (
        cond (decide ((byteAt x0 x2) > (57 : Int))) (
         cond (bne (byteAt x0 x2) (45 : Int)) (
          cond (bne (byteAt x0 x2) (46 : Int)) (
           some ((.c (.v (.bool false))), [])) (
           nameW.l1  m x0 x1 (IntKind.i64.wrap (x2 + (1 : Int))))) (
          nameW.l1  m x0 x1 (IntKind.i64.wrap (x2 + (1 : Int))))) (
         nameW.l1  m x0 x1 (IntKind.i64.wrap (x2 + (1 : Int)))))) (
       nameW.l1  m x0 x1 (IntKind.i64.wrap (x2 + (1 : Int)))))))) (
   cond (decide (((ByteArray.size x0) : Int) ≥ (1 : Int))) (
    cond (decide (((ByteArray.size x0) : Int) ≤ (12 : Int))) (
     some ((.c (.v (.bool (Bool.not ((ByteArray.toList x0) == (ByteArray.toList (⟨#[45]⟩ : ByteArray))))))), [])) (
     some ((.c (.v (.bool false))), []))) (
    some ((.c (.v (.bool false))), []))) := by kernel_rfl
theorem nameW.run_eq  (m : Nat) (x0 : ByteArray) : run (nameW.cfg ) Tryd.f35.ntmps Tryd.f35.results.toList m [.code (bodyOf Tryd.f35)] (enter (ivA nameW.ps (x0, ()))) = nameW.go  m x0 := by kernel_rfl
theorem nameW.ret  (hs : SpecsOK Tryd.prog (nameW.specs ))  (x0 : ByteArray) {m : Nat} {r : IV} (h : nameW.go  m x0 = some (r, [])) : VE.Returns Tryd.prog 35 (ivA nameW.ps (x0, ())) r :=
  returns_of_run (cfg := nameW.cfg ) (cfgOK_of mixed tab_ok hs .nil) rfl Tryd.func35 (body_some (by kernel_rfl)) (Nat.le_of_ble_eq_true (by kernel_rfl)) ((nameW.run_eq  m x0).trans h)
abbrev nameW.Law : Prop := ∀ (x0 : ByteArray), nameW.pre (x0, ()) = true → VE.Returns Tryd.prog 35 (ivA nameW.ps (x0, ())) (nameW.res (x0, ()))
theorem nameW.mkR (H : ∀ (x0 : ByteArray), nameW.pre (x0, ()) = true → VE.Returns Tryd.prog 35 (ivA nameW.ps (x0, ())) (nameW.res (x0, ()))) : SpecOK Tryd.prog 35 nameW.sp :=
  specOf_ret Tryd.func35 (by kernel_rfl) (by kernel_rfl) fun (x : ByteArray × Unit) hx => H (x.1) hx
theorem nameW.mk  (hs : SpecsOK Tryd.prog (nameW.specs ))  (H : ∀ (x0 : ByteArray), nameW.pre (x0, ()) = true → ∃ m, nameW.go  m x0 = some (nameW.res (x0, ()), [])) : SpecOK Tryd.prog 35 nameW.sp :=
  nameW.mkR fun x0 hx => (H x0 hx).elim fun _ hm => nameW.ret  hs  x0 hm

/-! ### triage/triageref1.Word -/
abbrev wordR.ps : List AK := [.d false .str]
def wordR.pre : ElA wordR.ps → Bool := fun (x : ByteArray × Unit) => fits .str (x.1) && (true)
noncomputable def wordR.res : ElA wordR.ps → IV := fun (x : ByteArray × Unit) => (fun s => vb (nameB s)) x.1
noncomputable def wordR.sp : ISpec := spOf wordR.ps wordR.pre wordR.res
abbrev wordR.OK : Prop := SpecOK Tryd.prog 20 wordR.sp
noncomputable def wordR.body : Code := bodyOf Tryd.f20
noncomputable def wordR.rs : List ResultVar := Tryd.f20.results.toList
def wordR.live : List (Nat × Live) := [(4, ⟨[(0, .plain), (18, .plain), (19, .plain)], []⟩)]
noncomputable def wordR.specs  : List (Nat × (List Bool × ISpec)) := []
noncomputable def wordR.ospecs  : List (Nat × OS) := []
noncomputable def wordR.cfg  : Cfg := ⟨lkp tab, lkp (wordR.specs ), lkp wordR.live, ⟨lkp (wordR.ospecs ), [], none, false, []⟩⟩
noncomputable def wordR.l1  (m : Nat) (x0 : ByteArray) (x1 : Int) (x2 : Int) : R := run (wordR.cfg ) 48 wordR.rs m ((todoR 4 wordR.body []).getD []) ⟨ofList (.c .junk) [(0, (.c (.v (.string x0)))), (18, (.c (.v (.int .i64 x1)))), (19, (.c (.v (.int .i64 x2))))], ofList none [], ofList false []⟩
noncomputable def wordR.go  (m : Nat) (x0 : ByteArray) : R := run (wordR.cfg ) 48 wordR.rs m [.code wordR.body] (enter (ivA wordR.ps (x0, ())))
theorem wordR.start  (m : Nat) (x0 : ByteArray) : wordR.go  (m + 1) x0 =
  cond (decide (((ByteArray.size x0) : Int) < (1 : Int))) (
   some ((.c (.v (.bool false))), [])) (
   cond (decide (((ByteArray.size x0) : Int) > (12 : Int))) (
    some ((.c (.v (.bool false))), [])) (
    cond ((ByteArray.toList x0) == (ByteArray.toList (⟨#[45]⟩ : ByteArray))) (
     some ((.c (.v (.bool false))), [])) (
     wordR.l1  m x0 ((ByteArray.size x0) : Int) (0 : Int)))) := by kernel_rfl
theorem wordR.s1  (m : Nat) (x0 : ByteArray) (x1 : Int) (x2 : Int) : wordR.l1  (m + 1) x0 x1 x2 =
  cond (decide (x2 < x1)) (
   test (decide ((0 : Int) ≤ x2)) (
    test (decide (x2 < ((ByteArray.size x0) : Int))) (
     cond (decide ((byteAt x0 x2) < (97 : Int))) (
      cond (decide ((byteAt x0 x2) < (48 : Int))) (
       cond (bne (byteAt x0 x2) (45 : Int)) (
        cond (bne (byteAt x0 x2) (46 : Int)) (
         some ((.c (.v (.bool false))), [])) (
         wordR.l1  m x0 x1 (IntKind.i64.wrap (x2 + (1 : Int))))) (
        wordR.l1  m x0 x1 (IntKind.i64.wrap (x2 + (1 : Int))))) (
       cond (decide ((byteAt x0 x2) > (57 : Int))) (
        cond (bne (byteAt x0 x2) (45 : Int)) (
         cond (bne (byteAt x0 x2) (46 : Int)) (
          some ((.c (.v (.bool false))), [])) (
          wordR.l1  m x0 x1 (IntKind.i64.wrap (x2 + (1 : Int))))) (
         wordR.l1  m x0 x1 (IntKind.i64.wrap (x2 + (1 : Int))))) (
        wordR.l1  m x0 x1 (IntKind.i64.wrap (x2 + (1 : Int)))))) (
      cond (decide ((byteAt x0 x2) > (122 : Int))) (
       cond (decide ((byteAt x0 x2) < (48 : Int))) (
        cond (bne (byteAt x0 x2) (45 : Int)) (
         cond (bne (byteAt x0 x2) (46 : Int)) (
          some ((.c (.v (.bool false))), [])) (
          wordR.l1  m x0 x1 (IntKind.i64.wrap (x2 + (1 : Int))))) (
         wordR.l1  m x0 x1 (IntKind.i64.wrap (x2 + (1 : Int))))) (
        cond (decide ((byteAt x0 x2) > (57 : Int))) (
         cond (bne (byteAt x0 x2) (45 : Int)) (
          cond (bne (byteAt x0 x2) (46 : Int)) (
           some ((.c (.v (.bool false))), [])) (
           wordR.l1  m x0 x1 (IntKind.i64.wrap (x2 + (1 : Int))))) (
          wordR.l1  m x0 x1 (IntKind.i64.wrap (x2 + (1 : Int))))) (
         wordR.l1  m x0 x1 (IntKind.i64.wrap (x2 + (1 : Int)))))) (
       wordR.l1  m x0 x1 (IntKind.i64.wrap (x2 + (1 : Int)))))))) (
   some ((.c (.v (.bool true))), [])) := by kernel_rfl
theorem wordR.run_eq  (m : Nat) (x0 : ByteArray) : run (wordR.cfg ) Tryd.f20.ntmps Tryd.f20.results.toList m [.code (bodyOf Tryd.f20)] (enter (ivA wordR.ps (x0, ()))) = wordR.go  m x0 := by kernel_rfl
theorem wordR.ret  (hs : SpecsOK Tryd.prog (wordR.specs ))  (x0 : ByteArray) {m : Nat} {r : IV} (h : wordR.go  m x0 = some (r, [])) : VE.Returns Tryd.prog 20 (ivA wordR.ps (x0, ())) r :=
  returns_of_run (cfg := wordR.cfg ) (cfgOK_of mixed tab_ok hs .nil) rfl Tryd.func20 (body_some (by kernel_rfl)) (Nat.le_of_ble_eq_true (by kernel_rfl)) ((wordR.run_eq  m x0).trans h)
abbrev wordR.Law : Prop := ∀ (x0 : ByteArray), wordR.pre (x0, ()) = true → VE.Returns Tryd.prog 20 (ivA wordR.ps (x0, ())) (wordR.res (x0, ()))
theorem wordR.mkR (H : ∀ (x0 : ByteArray), wordR.pre (x0, ()) = true → VE.Returns Tryd.prog 20 (ivA wordR.ps (x0, ())) (wordR.res (x0, ()))) : SpecOK Tryd.prog 20 wordR.sp :=
  specOf_ret Tryd.func20 (by kernel_rfl) (by kernel_rfl) fun (x : ByteArray × Unit) hx => H (x.1) hx
theorem wordR.mk  (hs : SpecsOK Tryd.prog (wordR.specs ))  (H : ∀ (x0 : ByteArray), wordR.pre (x0, ()) = true → ∃ m, wordR.go  m x0 = some (wordR.res (x0, ()), [])) : SpecOK Tryd.prog 20 wordR.sp :=
  wordR.mkR fun x0 hx => (H x0 hx).elim fun _ hm => wordR.ret  hs  x0 hm

/-! ### triage/triageref1.Parts -/
abbrev partsR.ps : List AK := [.d false .str, .d false (.int .u8)]
def partsR.pre : ElA partsR.ps → Bool := fun (x : ByteArray × Int × Unit) => fits .str (x.1) && (fits (.int .u8) (x.2.1) && ((fun s b => decide (ByteArray.size s ≤ 10000)) x.1 x.2.1 && (true)))
noncomputable def partsR.res : ElA partsR.ps → IV := fun (x : ByteArray × Int × Unit) => (fun s b => .c (.sl .str (partsL s b))) x.1 x.2.1
noncomputable def partsR.sp : ISpec := spOf partsR.ps partsR.pre partsR.res
abbrev partsR.OK : Prop := SpecOK Tryd.prog 19 partsR.sp
noncomputable def partsR.body : Code := bodyOf Tryd.f19
noncomputable def partsR.rs : List ResultVar := Tryd.f19.results.toList
def partsR.live : List (Nat × Live) := [(4, ⟨[(0, .plain), (1, .plain), (5, .arr 9 .str), (6, .plain), (9, .plain), (10, .plain)], []⟩)]
noncomputable def partsR.specs  : List (Nat × (List Bool × ISpec)) := []
noncomputable def partsR.ospecs  : List (Nat × OS) := []
noncomputable def partsR.cfg  : Cfg := ⟨lkp tab, lkp (partsR.specs ), lkp partsR.live, ⟨lkp (partsR.ospecs ), [], none, false, []⟩⟩
noncomputable def partsR.l1  (m : Nat) (x0 : ByteArray) (x1 : Int) (x2 : Int) (x3 : Int) (x4 : Int) (x5 : List ByteArray) : R := run (partsR.cfg ) 34 partsR.rs m ((todoR 4 partsR.body []).getD []) ⟨ofList (.c .junk) [(0, (.c (.v (.string x0)))), (1, (.c (.v (.int .u8 x1)))), (5, (.c (.sref 766))), (6, (.c (.v (.int .i64 x2)))), (9, (.c (.v (.int .i64 x3)))), (10, (.c (.v (.int .i64 x4))))], ofList none [(766, some (.arr 9 .str x5 false))], ofList false [(766, true)]⟩
noncomputable def partsR.go  (m : Nat) (x0 : ByteArray) (x1 : Int) : R := run (partsR.cfg ) 34 partsR.rs m [.code partsR.body] (enter (ivA partsR.ps (x0, x1, ())))
theorem partsR.start  (m : Nat) (x0 : ByteArray) (x1 : Int) : partsR.go  (m + 1) x0 x1 =
  partsR.l1  m x0 x1 (0 : Int) ((ByteArray.size x0) : Int) (0 : Int) ([] : List ByteArray) := by kernel_rfl
theorem partsR.s1  (m : Nat) (x0 : ByteArray) (x1 : Int) (x2 : Int) (x3 : Int) (x4 : Int) (x5 : List ByteArray) : partsR.l1  (m + 1) x0 x1 x2 x3 x4 x5 =
  cond (decide (x4 < x3)) (
   test (decide ((0 : Int) ≤ x4)) (
    test (decide (x4 < ((ByteArray.size x0) : Int))) (
     cond ((byteAt x0 x4) == x1) (
      test (decide ((0 : Int) ≤ x4)) (
       test (decide (x4 ≤ ((ByteArray.size x0) : Int))) (
        test (decide ((0 : Int) ≤ x2)) (
         test (decide (x2 ≤ ((Int.toNat x4) : Int))) (
          test (decide (((List.length x5) + (List.length ((ByteArray.extract x0 (Int.toNat x2) (Int.toNat x4)) :: ([] : List ByteArray)))) ≤ (lim 16))) (
           partsR.l1  m x0 x1 (IntKind.i64.wrap (x4 + (1 : Int))) x3 (IntKind.i64.wrap (x4 + (1 : Int))) (x5 ++ ((ByteArray.extract x0 (Int.toNat x2) (Int.toNat x4)) :: ([] : List ByteArray))))))))) (
      partsR.l1  m x0 x1 x2 x3 (IntKind.i64.wrap (x4 + (1 : Int))) x5)))) (
   test (decide ((0 : Int) ≤ x2)) (
    test (decide (x2 ≤ ((ByteArray.size x0) : Int))) (
     test (decide (((List.length x5) + (List.length ((ByteArray.extract x0 (Int.toNat x2) (ByteArray.size x0)) :: ([] : List ByteArray)))) ≤ (lim 16))) (
      some ((.c (.sl .str (x5 ++ ((ByteArray.extract x0 (Int.toNat x2) (ByteArray.size x0)) :: ([] : List ByteArray))))), []))))) := by kernel_rfl
theorem partsR.run_eq  (m : Nat) (x0 : ByteArray) (x1 : Int) : run (partsR.cfg ) Tryd.f19.ntmps Tryd.f19.results.toList m [.code (bodyOf Tryd.f19)] (enter (ivA partsR.ps (x0, x1, ()))) = partsR.go  m x0 x1 := by kernel_rfl
theorem partsR.ret  (hs : SpecsOK Tryd.prog (partsR.specs ))  (x0 : ByteArray) (x1 : Int) {m : Nat} {r : IV} (h : partsR.go  m x0 x1 = some (r, [])) : VE.Returns Tryd.prog 19 (ivA partsR.ps (x0, x1, ())) r :=
  returns_of_run (cfg := partsR.cfg ) (cfgOK_of mixed tab_ok hs .nil) rfl Tryd.func19 (body_some (by kernel_rfl)) (Nat.le_of_ble_eq_true (by kernel_rfl)) ((partsR.run_eq  m x0 x1).trans h)
abbrev partsR.Law : Prop := ∀ (x0 : ByteArray) (x1 : Int), partsR.pre (x0, x1, ()) = true → VE.Returns Tryd.prog 19 (ivA partsR.ps (x0, x1, ())) (partsR.res (x0, x1, ()))
theorem partsR.mkR (H : ∀ (x0 : ByteArray) (x1 : Int), partsR.pre (x0, x1, ()) = true → VE.Returns Tryd.prog 19 (ivA partsR.ps (x0, x1, ())) (partsR.res (x0, x1, ()))) : SpecOK Tryd.prog 19 partsR.sp :=
  specOf_ret Tryd.func19 (by kernel_rfl) (by kernel_rfl) fun (x : ByteArray × Int × Unit) hx => H (x.1) (x.2.1) hx
theorem partsR.mk  (hs : SpecsOK Tryd.prog (partsR.specs ))  (H : ∀ (x0 : ByteArray) (x1 : Int), partsR.pre (x0, x1, ()) = true → ∃ m, partsR.go  m x0 x1 = some (partsR.res (x0, x1, ()), [])) : SpecOK Tryd.prog 19 partsR.sp :=
  partsR.mkR fun x0 x1 hx => (H x0 x1 hx).elim fun _ hm => partsR.ret  hs  x0 x1 hm

/-! ### strconv.Itoa -/
abbrev itoa.ps : List AK := [.d false (.int .i64)]
def itoa.pre : ElA itoa.ps → Bool := fun (x : Int × Unit) => fits (.int .i64) (x.1) && ((fun n => decide (-9223372036854775808 ≤ n ∧ n ≤ 9223372036854775807)) x.1 && (true))
noncomputable def itoa.res : ElA itoa.ps → IV := fun (x : Int × Unit) => (fun n => vs (itoaB n)) x.1
noncomputable def itoa.sp : ISpec := spOf itoa.ps itoa.pre itoa.res
abbrev itoa.OK : Prop := SpecOK Tryd.prog 31 itoa.sp
theorem itoa.mkR (H : ∀ (x0 : Int), itoa.pre (x0, ()) = true → VE.Returns Tryd.prog 31 (ivA itoa.ps (x0, ())) (itoa.res (x0, ()))) : SpecOK Tryd.prog 31 itoa.sp :=
  specOf_ret Tryd.func31 (by kernel_rfl) (by kernel_rfl) fun (x : Int × Unit) hx => H (x.1) hx

/-! ### triage/config.yes -/
abbrev yes.ps : List AK := [.d false .str]
def yes.pre : ElA yes.ps → Bool := fun (x : ByteArray × Unit) => fits .str (x.1) && (true)
noncomputable def yes.res : ElA yes.ps → IV := fun (x : ByteArray × Unit) => (fun s => .tup [vb (yesB s), vb (yesB s || noB s)]) x.1
noncomputable def yes.sp : ISpec := spOf yes.ps yes.pre yes.res
abbrev yes.OK : Prop := SpecOK Tryd.prog 39 yes.sp
noncomputable def yes.body : Code := bodyOf Tryd.f39
noncomputable def yes.rs : List ResultVar := Tryd.f39.results.toList
def yes.live : List (Nat × Live) := []
noncomputable def yes.specs  : List (Nat × (List Bool × ISpec)) := []
noncomputable def yes.ospecs  : List (Nat × OS) := []
noncomputable def yes.cfg  : Cfg := ⟨lkp tab, lkp (yes.specs ), lkp yes.live, ⟨lkp (yes.ospecs ), [], none, false, []⟩⟩
noncomputable def yes.go  (m : Nat) (x0 : ByteArray) : R := run (yes.cfg ) 12 yes.rs m [.code yes.body] (enter (ivA yes.ps (x0, ())))
theorem yes.start  (m : Nat) (x0 : ByteArray) : yes.go  (m + 1) x0 =
  cond ((ByteArray.toList x0) == (ByteArray.toList (⟨#[121, 101, 115]⟩ : ByteArray))) (
   some ((.tup [(.c (.v (.bool ((ByteArray.toList x0) == (ByteArray.toList (⟨#[121, 101, 115]⟩ : ByteArray)))))), (.c (.v (.bool true)))]), [])) (
   some ((.tup [(.c (.v (.bool ((ByteArray.toList x0) == (ByteArray.toList (⟨#[121, 101, 115]⟩ : ByteArray)))))), (.c (.v (.bool ((ByteArray.toList x0) == (ByteArray.toList (⟨#[110, 111]⟩ : ByteArray))))))]), [])) := by kernel_rfl
theorem yes.run_eq  (m : Nat) (x0 : ByteArray) : run (yes.cfg ) Tryd.f39.ntmps Tryd.f39.results.toList m [.code (bodyOf Tryd.f39)] (enter (ivA yes.ps (x0, ()))) = yes.go  m x0 := by kernel_rfl
theorem yes.ret  (hs : SpecsOK Tryd.prog (yes.specs ))  (x0 : ByteArray) {m : Nat} {r : IV} (h : yes.go  m x0 = some (r, [])) : VE.Returns Tryd.prog 39 (ivA yes.ps (x0, ())) r :=
  returns_of_run (cfg := yes.cfg ) (cfgOK_of mixed tab_ok hs .nil) rfl Tryd.func39 (body_some (by kernel_rfl)) (Nat.le_of_ble_eq_true (by kernel_rfl)) ((yes.run_eq  m x0).trans h)
abbrev yes.Law : Prop := ∀ (x0 : ByteArray), yes.pre (x0, ()) = true → VE.Returns Tryd.prog 39 (ivA yes.ps (x0, ())) (yes.res (x0, ()))
theorem yes.mkR (H : ∀ (x0 : ByteArray), yes.pre (x0, ()) = true → VE.Returns Tryd.prog 39 (ivA yes.ps (x0, ())) (yes.res (x0, ()))) : SpecOK Tryd.prog 39 yes.sp :=
  specOf_ret Tryd.func39 (by kernel_rfl) (by kernel_rfl) fun (x : ByteArray × Unit) hx => H (x.1) hx
theorem yes.mk  (hs : SpecsOK Tryd.prog (yes.specs ))  (H : ∀ (x0 : ByteArray), yes.pre (x0, ()) = true → ∃ m, yes.go  m x0 = some (yes.res (x0, ()), [])) : SpecOK Tryd.prog 39 yes.sp :=
  yes.mkR fun x0 hx => (H x0 hx).elim fun _ hm => yes.ret  hs  x0 hm

/-! ### triage/config.word -/
abbrev wordY.ps : List AK := [.d false .bool]
def wordY.pre : ElA wordY.ps → Bool := fun (x : Bool × Unit) => fits .bool (x.1) && (true)
noncomputable def wordY.res : ElA wordY.ps → IV := fun (x : Bool × Unit) => (fun b => vs (yesW b)) x.1
noncomputable def wordY.sp : ISpec := spOf wordY.ps wordY.pre wordY.res
abbrev wordY.OK : Prop := SpecOK Tryd.prog 32 wordY.sp
noncomputable def wordY.body : Code := bodyOf Tryd.f32
noncomputable def wordY.rs : List ResultVar := Tryd.f32.results.toList
def wordY.live : List (Nat × Live) := []
noncomputable def wordY.specs  : List (Nat × (List Bool × ISpec)) := []
noncomputable def wordY.ospecs  : List (Nat × OS) := []
noncomputable def wordY.cfg  : Cfg := ⟨lkp tab, lkp (wordY.specs ), lkp wordY.live, ⟨lkp (wordY.ospecs ), [], none, false, []⟩⟩
noncomputable def wordY.go  (m : Nat) (x0 : Bool) : R := run (wordY.cfg ) 4 wordY.rs m [.code wordY.body] (enter (ivA wordY.ps (x0, ())))
theorem wordY.start  (m : Nat) (x0 : Bool) : wordY.go  (m + 1) x0 =
  cond x0 (
   some ((.c (.v (.string (⟨#[121, 101, 115]⟩ : ByteArray)))), [])) (
   some ((.c (.v (.string (⟨#[110, 111]⟩ : ByteArray)))), [])) := by kernel_rfl
theorem wordY.run_eq  (m : Nat) (x0 : Bool) : run (wordY.cfg ) Tryd.f32.ntmps Tryd.f32.results.toList m [.code (bodyOf Tryd.f32)] (enter (ivA wordY.ps (x0, ()))) = wordY.go  m x0 := by kernel_rfl
theorem wordY.ret  (hs : SpecsOK Tryd.prog (wordY.specs ))  (x0 : Bool) {m : Nat} {r : IV} (h : wordY.go  m x0 = some (r, [])) : VE.Returns Tryd.prog 32 (ivA wordY.ps (x0, ())) r :=
  returns_of_run (cfg := wordY.cfg ) (cfgOK_of mixed tab_ok hs .nil) rfl Tryd.func32 (body_some (by kernel_rfl)) (Nat.le_of_ble_eq_true (by kernel_rfl)) ((wordY.run_eq  m x0).trans h)
abbrev wordY.Law : Prop := ∀ (x0 : Bool), wordY.pre (x0, ()) = true → VE.Returns Tryd.prog 32 (ivA wordY.ps (x0, ())) (wordY.res (x0, ()))
theorem wordY.mkR (H : ∀ (x0 : Bool), wordY.pre (x0, ()) = true → VE.Returns Tryd.prog 32 (ivA wordY.ps (x0, ())) (wordY.res (x0, ()))) : SpecOK Tryd.prog 32 wordY.sp :=
  specOf_ret Tryd.func32 (by kernel_rfl) (by kernel_rfl) fun (x : Bool × Unit) hx => H (x.1) hx
theorem wordY.mk  (hs : SpecsOK Tryd.prog (wordY.specs ))  (H : ∀ (x0 : Bool), wordY.pre (x0, ()) = true → ∃ m, wordY.go  m x0 = some (wordY.res (x0, ()), [])) : SpecOK Tryd.prog 32 wordY.sp :=
  wordY.mkR fun x0 hx => (H x0 hx).elim fun _ hm => wordY.ret  hs  x0 hm

/-! ### triage/config.policies -/
abbrev pols.ps : List AK := []
def pols.pre : ElA pols.ps → Bool := fun (x : Unit) => true
noncomputable def pols.res : ElA pols.ps → IV := fun (x : Unit) => (.c (.sl .str polL)) 
noncomputable def pols.sp : ISpec := spOf pols.ps pols.pre pols.res
abbrev pols.OK : Prop := SpecOK Tryd.prog 33 pols.sp
noncomputable def pols.body : Code := bodyOf Tryd.f33
noncomputable def pols.rs : List ResultVar := Tryd.f33.results.toList
def pols.live : List (Nat × Live) := []
noncomputable def pols.specs  : List (Nat × (List Bool × ISpec)) := []
noncomputable def pols.ospecs  : List (Nat × OS) := []
noncomputable def pols.cfg  : Cfg := ⟨lkp tab, lkp (pols.specs ), lkp pols.live, ⟨lkp (pols.ospecs ), [], none, false, []⟩⟩
noncomputable def pols.go  (m : Nat)  : R := run (pols.cfg ) 2 pols.rs m [.code pols.body] (enter (ivA pols.ps ()))
theorem pols.start  (m : Nat)  : pols.go  (m + 1)  =
  some ((.c (.sl .str ((⟨#[114, 111, 117, 110, 100]⟩ : ByteArray) :: ((⟨#[108, 101, 97, 115, 116]⟩ : ByteArray) :: ((⟨#[114, 105, 110, 103]⟩ : ByteArray) :: ([] : List ByteArray)))))), []) := by kernel_rfl
theorem pols.run_eq  (m : Nat)  : run (pols.cfg ) Tryd.f33.ntmps Tryd.f33.results.toList m [.code (bodyOf Tryd.f33)] (enter (ivA pols.ps ())) = pols.go  m  := by kernel_rfl
theorem pols.ret  (hs : SpecsOK Tryd.prog (pols.specs ))   {m : Nat} {r : IV} (h : pols.go  m  = some (r, [])) : VE.Returns Tryd.prog 33 (ivA pols.ps ()) r :=
  returns_of_run (cfg := pols.cfg ) (cfgOK_of mixed tab_ok hs .nil) rfl Tryd.func33 (body_some (by kernel_rfl)) (Nat.le_of_ble_eq_true (by kernel_rfl)) ((pols.run_eq  m ).trans h)
abbrev pols.Law : Prop := ∀ (_ : Unit), pols.pre () = true → VE.Returns Tryd.prog 33 (ivA pols.ps ()) (pols.res ())
theorem pols.mkR (H : ∀ (_ : Unit), pols.pre () = true → VE.Returns Tryd.prog 33 (ivA pols.ps ()) (pols.res ())) : SpecOK Tryd.prog 33 pols.sp :=
  specOf_ret Tryd.func33 (by kernel_rfl) (by kernel_rfl) fun (x : Unit) hx => H () hx
theorem pols.mk  (hs : SpecsOK Tryd.prog (pols.specs ))  (H : ∀ (_ : Unit), pols.pre () = true → ∃ m, pols.go  m  = some (pols.res (), [])) : SpecOK Tryd.prog 33 pols.sp :=
  pols.mkR fun _ hx => (H () hx).elim fun _ hm => pols.ret  hs   hm

/-! ### triage/config.set -/
abbrev set.ps : List AK := [.o 23 TConfig [none, none, none, none, none, none, none, none, none, none, none, none, none, none, none, none, none, none, none, none, none, none, none], .d false .str, .d false .str]
def set.pre : ElA set.ps → Bool := fun (x : (El TConfig) × ByteArray × ByteArray × Unit) => fits TConfig (x.1) && (fits .str (x.2.1) && (fits .str (x.2.2.1) && ((fun _ s v => decide (ByteArray.size s ≤ 1000000 ∧ ByteArray.size v ≤ 1000000)) x.1 x.2.1 x.2.2.1 && (true))))
noncomputable def set.rv : ElA set.ps → List RV := fun (x : (El TConfig) × ByteArray × ByteArray × Unit) => [.d ((fun c s v => vb (setOk c s v)) x.1 x.2.1 x.2.2.1)]
noncomputable def set.res : ElA set.ps → IV := fun x => oneOrTup (rvIVs 0 (set.rv x))
noncomputable def set.back : ElA set.ps → List (Nat × Box) := fun (x : (El TConfig) × ByteArray × ByteArray × Unit) => rvBxs 0 (set.rv x) ++ objBx 0 23 TConfig [none, none, none, none, none, none, none, none, none, none, none, none, none, none, none, none, none, none, none, none, none, none, none] ((fun c s v => setC c s v) x.1 x.2.1 x.2.2.1)
noncomputable def set.sp : OSpec := spO set.ps set.pre set.res set.back
abbrev set.OK : Prop := SpecOKO Tryd.prog 22 set.sp
theorem set.mkR (H : ∀ (x0 : (El TConfig)) (x1 : ByteArray) (x2 : ByteArray), set.pre (x0, x1, x2, ()) = true → VE.ReturnsO Tryd.prog 22 (ivAO 0 set.ps (x0, x1, x2, ())) (bxAO 0 set.ps (x0, x1, x2, ())) (set.res (x0, x1, x2, ())) (set.back (x0, x1, x2, ()))) : SpecOKO Tryd.prog 22 set.sp :=
  specO_ret Tryd.func22 (by kernel_rfl) (by kernel_rfl) fun (x : (El TConfig) × ByteArray × ByteArray × Unit) hx => H (x.1) (x.2.1) (x.2.2.1) hx

/-! ### triage/triageref1.word -/
abbrev wordIx.ps : List AK := [.d false .str, .d false (.sl .str)]
def wordIx.pre : ElA wordIx.ps → Bool := fun (x : ByteArray × (List ByteArray) × Unit) => fits .str (x.1) && (fits (.sl .str) (x.2.1) && ((fun _ l => decide (List.length l ≤ 1000)) x.1 x.2.1 && (true)))
noncomputable def wordIx.res : ElA wordIx.ps → IV := fun (x : ByteArray × (List ByteArray) × Unit) => (fun s l => vi .i64 (wordI s l 0)) x.1 x.2.1
noncomputable def wordIx.sp : ISpec := spOf wordIx.ps wordIx.pre wordIx.res
abbrev wordIx.OK : Prop := SpecOK Tryd.prog 26 wordIx.sp
noncomputable def wordIx.body : Code := bodyOf Tryd.f26
noncomputable def wordIx.rs : List ResultVar := Tryd.f26.results.toList
def wordIx.live : List (Nat × Live) := [(2, ⟨[(0, .plain), (7, .sl .str), (8, .plain), (9, .plain)], []⟩)]
noncomputable def wordIx.specs  : List (Nat × (List Bool × ISpec)) := []
noncomputable def wordIx.ospecs  : List (Nat × OS) := []
noncomputable def wordIx.cfg  : Cfg := ⟨lkp tab, lkp (wordIx.specs ), lkp wordIx.live, ⟨lkp (wordIx.ospecs ), [], none, false, []⟩⟩
noncomputable def wordIx.l1  (m : Nat) (x0 : ByteArray) (x1 : List ByteArray) (x2 : Int) (x3 : Int) : R := run (wordIx.cfg ) 20 wordIx.rs m ((todoR 2 wordIx.body []).getD []) ⟨ofList (.c .junk) [(0, (.c (.v (.string x0)))), (7, (.c (.sl .str x1))), (8, (.c (.v (.int .i64 x2)))), (9, (.c (.v (.int .i64 x3))))], ofList none [], ofList false []⟩
noncomputable def wordIx.go  (m : Nat) (x0 : ByteArray) (x1 : (List ByteArray)) : R := run (wordIx.cfg ) 20 wordIx.rs m [.code wordIx.body] (enter (ivA wordIx.ps (x0, x1, ())))
theorem wordIx.start  (m : Nat) (x0 : ByteArray) (x1 : (List ByteArray)) : wordIx.go  (m + 1) x0 x1 =
  wordIx.l1  m x0 x1 ((List.length x1) : Int) (0 : Int) := by kernel_rfl
theorem wordIx.s1  (m : Nat) (x0 : ByteArray) (x1 : List ByteArray) (x2 : Int) (x3 : Int) : wordIx.l1  (m + 1) x0 x1 x2 x3 =
  cond (decide (x3 < x2)) (
   test (decide ((0 : Int) ≤ x3)) (
    test (decide (x3 < ((List.length x1) : Int))) (
     cond ((ByteArray.toList (rdEl .str x1 (Int.toNat x3))) == (ByteArray.toList x0)) (
      some ((.c (.v (.int .i64 (IntKind.i64.wrap (x3 + (1 : Int)))))), [])) (
      wordIx.l1  m x0 x1 x2 (IntKind.i64.wrap (x3 + (1 : Int))))))) (
   some ((.c (.v (.int .i64 (0 : Int)))), [])) := by kernel_rfl
theorem wordIx.run_eq  (m : Nat) (x0 : ByteArray) (x1 : (List ByteArray)) : run (wordIx.cfg ) Tryd.f26.ntmps Tryd.f26.results.toList m [.code (bodyOf Tryd.f26)] (enter (ivA wordIx.ps (x0, x1, ()))) = wordIx.go  m x0 x1 := by kernel_rfl
theorem wordIx.ret  (hs : SpecsOK Tryd.prog (wordIx.specs ))  (x0 : ByteArray) (x1 : (List ByteArray)) {m : Nat} {r : IV} (h : wordIx.go  m x0 x1 = some (r, [])) : VE.Returns Tryd.prog 26 (ivA wordIx.ps (x0, x1, ())) r :=
  returns_of_run (cfg := wordIx.cfg ) (cfgOK_of mixed tab_ok hs .nil) rfl Tryd.func26 (body_some (by kernel_rfl)) (Nat.le_of_ble_eq_true (by kernel_rfl)) ((wordIx.run_eq  m x0 x1).trans h)
abbrev wordIx.Law : Prop := ∀ (x0 : ByteArray) (x1 : (List ByteArray)), wordIx.pre (x0, x1, ()) = true → VE.Returns Tryd.prog 26 (ivA wordIx.ps (x0, x1, ())) (wordIx.res (x0, x1, ()))
theorem wordIx.mkR (H : ∀ (x0 : ByteArray) (x1 : (List ByteArray)), wordIx.pre (x0, x1, ()) = true → VE.Returns Tryd.prog 26 (ivA wordIx.ps (x0, x1, ())) (wordIx.res (x0, x1, ()))) : SpecOK Tryd.prog 26 wordIx.sp :=
  specOf_ret Tryd.func26 (by kernel_rfl) (by kernel_rfl) fun (x : ByteArray × (List ByteArray) × Unit) hx => H (x.1) (x.2.1) hx
theorem wordIx.mk  (hs : SpecsOK Tryd.prog (wordIx.specs ))  (H : ∀ (x0 : ByteArray) (x1 : (List ByteArray)), wordIx.pre (x0, x1, ()) = true → ∃ m, wordIx.go  m x0 x1 = some (wordIx.res (x0, x1, ()), [])) : SpecOK Tryd.prog 26 wordIx.sp :=
  wordIx.mkR fun x0 x1 hx => (H x0 x1 hx).elim fun _ hm => wordIx.ret  hs  x0 x1 hm

/-! ### triage/triageref1.bit -/
abbrev bit.ps : List AK := [.d false .bool]
def bit.pre : ElA bit.ps → Bool := fun (x : Bool × Unit) => fits .bool (x.1) && (true)
noncomputable def bit.res : ElA bit.ps → IV := fun (x : Bool × Unit) => (fun b => vi .i64 (bitI b)) x.1
noncomputable def bit.sp : ISpec := spOf bit.ps bit.pre bit.res
abbrev bit.OK : Prop := SpecOK Tryd.prog 41 bit.sp
noncomputable def bit.body : Code := bodyOf Tryd.f41
noncomputable def bit.rs : List ResultVar := Tryd.f41.results.toList
def bit.live : List (Nat × Live) := []
noncomputable def bit.specs  : List (Nat × (List Bool × ISpec)) := []
noncomputable def bit.ospecs  : List (Nat × OS) := []
noncomputable def bit.cfg  : Cfg := ⟨lkp tab, lkp (bit.specs ), lkp bit.live, ⟨lkp (bit.ospecs ), [], none, false, []⟩⟩
noncomputable def bit.go  (m : Nat) (x0 : Bool) : R := run (bit.cfg ) 4 bit.rs m [.code bit.body] (enter (ivA bit.ps (x0, ())))
theorem bit.start  (m : Nat) (x0 : Bool) : bit.go  (m + 1) x0 =
  cond x0 (
   some ((.c (.v (.int .i64 (1 : Int)))), [])) (
   some ((.c (.v (.int .i64 (0 : Int)))), [])) := by kernel_rfl
theorem bit.run_eq  (m : Nat) (x0 : Bool) : run (bit.cfg ) Tryd.f41.ntmps Tryd.f41.results.toList m [.code (bodyOf Tryd.f41)] (enter (ivA bit.ps (x0, ()))) = bit.go  m x0 := by kernel_rfl
theorem bit.ret  (hs : SpecsOK Tryd.prog (bit.specs ))  (x0 : Bool) {m : Nat} {r : IV} (h : bit.go  m x0 = some (r, [])) : VE.Returns Tryd.prog 41 (ivA bit.ps (x0, ())) r :=
  returns_of_run (cfg := bit.cfg ) (cfgOK_of mixed tab_ok hs .nil) rfl Tryd.func41 (body_some (by kernel_rfl)) (Nat.le_of_ble_eq_true (by kernel_rfl)) ((bit.run_eq  m x0).trans h)
abbrev bit.Law : Prop := ∀ (x0 : Bool), bit.pre (x0, ()) = true → VE.Returns Tryd.prog 41 (ivA bit.ps (x0, ())) (bit.res (x0, ()))
theorem bit.mkR (H : ∀ (x0 : Bool), bit.pre (x0, ()) = true → VE.Returns Tryd.prog 41 (ivA bit.ps (x0, ())) (bit.res (x0, ()))) : SpecOK Tryd.prog 41 bit.sp :=
  specOf_ret Tryd.func41 (by kernel_rfl) (by kernel_rfl) fun (x : Bool × Unit) hx => H (x.1) hx
theorem bit.mk  (hs : SpecsOK Tryd.prog (bit.specs ))  (H : ∀ (x0 : Bool), bit.pre (x0, ()) = true → ∃ m, bit.go  m x0 = some (bit.res (x0, ()), [])) : SpecOK Tryd.prog 41 bit.sp :=
  bit.mkR fun x0 hx => (H x0 hx).elim fun _ hm => bit.ret  hs  x0 hm

/-! ### triage/triageref1.nums -/
abbrev numsR.ps : List AK := [.d true TConfig]
def numsR.pre : ElA numsR.ps → Bool := fun (x : (El TConfig) × Unit) => fits TConfig (x.1) && (true)
noncomputable def numsR.res : ElA numsR.ps → IV := fun (x : (El TConfig) × Unit) => (fun c => .c (.sl (.int .i64) (numsL c))) x.1
noncomputable def numsR.sp : ISpec := spOf numsR.ps numsR.pre numsR.res
abbrev numsR.OK : Prop := SpecOK Tryd.prog 24 numsR.sp
noncomputable def numsR.body : Code := bodyOf Tryd.f24
noncomputable def numsR.rs : List ResultVar := Tryd.f24.results.toList
def numsR.live : List (Nat × Live) := []
noncomputable def numsR.specs  : List (Nat × (List Bool × ISpec)) := [(41, ([], bit.sp))]
noncomputable def numsR.ospecs  : List (Nat × OS) := []
noncomputable def numsR.cfg  : Cfg := ⟨lkp tab, lkp (numsR.specs ), lkp numsR.live, ⟨lkp (numsR.ospecs ), [], none, false, []⟩⟩
noncomputable def numsR.go  (m : Nat) (x0 : (El TConfig)) : R := run (numsR.cfg ) 50 numsR.rs m [.code numsR.body] (enter (ivA numsR.ps (x0, ())))
theorem numsR.start  (m : Nat) (x0 : (El TConfig)) : numsR.go  (m + 1) x0 =
  some ((.c (.sl (.int .i64) (x0.1 :: (x0.2.1 :: (x0.2.2.1 :: (x0.2.2.2.1 :: (x0.2.2.2.2.1 :: (x0.2.2.2.2.2.1 :: (x0.2.2.2.2.2.2.1 :: (x0.2.2.2.2.2.2.2.1 :: (x0.2.2.2.2.2.2.2.2.1 :: (x0.2.2.2.2.2.2.2.2.2.1 :: (x0.2.2.2.2.2.2.2.2.2.2.1 :: (x0.2.2.2.2.2.2.2.2.2.2.2.1 :: (x0.2.2.2.2.2.2.2.2.2.2.2.2.1 :: (x0.2.2.2.2.2.2.2.2.2.2.2.2.2.1 :: (x0.2.2.2.2.2.2.2.2.2.2.2.2.2.2.1 :: ((bitI x0.2.2.2.2.2.2.2.2.2.2.2.2.2.2.2.1) :: (x0.2.2.2.2.2.2.2.2.2.2.2.2.2.2.2.2.1 :: (x0.2.2.2.2.2.2.2.2.2.2.2.2.2.2.2.2.2.1 :: (x0.2.2.2.2.2.2.2.2.2.2.2.2.2.2.2.2.2.2.1 :: (x0.2.2.2.2.2.2.2.2.2.2.2.2.2.2.2.2.2.2.2.1 :: (x0.2.2.2.2.2.2.2.2.2.2.2.2.2.2.2.2.2.2.2.2.1 :: ((0 : Int) :: ((bitI x0.2.2.2.2.2.2.2.2.2.2.2.2.2.2.2.2.2.2.2.2.2.2) :: ([] : List Int)))))))))))))))))))))))))), []) := by kernel_rfl
theorem numsR.run_eq  (m : Nat) (x0 : (El TConfig)) : run (numsR.cfg ) Tryd.f24.ntmps Tryd.f24.results.toList m [.code (bodyOf Tryd.f24)] (enter (ivA numsR.ps (x0, ()))) = numsR.go  m x0 := by kernel_rfl
theorem numsR.ret  (hs : SpecsOK Tryd.prog (numsR.specs ))  (x0 : (El TConfig)) {m : Nat} {r : IV} (h : numsR.go  m x0 = some (r, [])) : VE.Returns Tryd.prog 24 (ivA numsR.ps (x0, ())) r :=
  returns_of_run (cfg := numsR.cfg ) (cfgOK_of mixed tab_ok hs .nil) rfl Tryd.func24 (body_some (by kernel_rfl)) (Nat.le_of_ble_eq_true (by kernel_rfl)) ((numsR.run_eq  m x0).trans h)
abbrev numsR.Law : Prop := ∀ (x0 : (El TConfig)), numsR.pre (x0, ()) = true → VE.Returns Tryd.prog 24 (ivA numsR.ps (x0, ())) (numsR.res (x0, ()))
theorem numsR.mkR (H : ∀ (x0 : (El TConfig)), numsR.pre (x0, ()) = true → VE.Returns Tryd.prog 24 (ivA numsR.ps (x0, ())) (numsR.res (x0, ()))) : SpecOK Tryd.prog 24 numsR.sp :=
  specOf_ret Tryd.func24 (by kernel_rfl) (by kernel_rfl) fun (x : (El TConfig) × Unit) hx => H (x.1) hx
theorem numsR.mk  (hs : SpecsOK Tryd.prog (numsR.specs ))  (H : ∀ (x0 : (El TConfig)), numsR.pre (x0, ()) = true → ∃ m, numsR.go  m x0 = some (numsR.res (x0, ()), [])) : SpecOK Tryd.prog 24 numsR.sp :=
  numsR.mkR fun x0 hx => (H x0 hx).elim fun _ hm => numsR.ret  hs  x0 hm

/-! ### triage/triageref1.rows -/
abbrev rowsR.ps : List AK := []
def rowsR.pre : ElA rowsR.ps → Bool := fun (x : Unit) => true
noncomputable def rowsR.res : ElA rowsR.ps → IV := fun (x : Unit) => (.c (.sl TRow rowsL)) 
noncomputable def rowsR.sp : ISpec := spOf rowsR.ps rowsR.pre rowsR.res
abbrev rowsR.OK : Prop := SpecOK Tryd.prog 25 rowsR.sp
noncomputable def rowsR.body : Code := bodyOf Tryd.f25
noncomputable def rowsR.rs : List ResultVar := Tryd.f25.results.toList
def rowsR.live : List (Nat × Live) := []
noncomputable def rowsR.specs  : List (Nat × (List Bool × ISpec)) := []
noncomputable def rowsR.ospecs  : List (Nat × OS) := []
noncomputable def rowsR.cfg  : Cfg := ⟨lkp tab, lkp (rowsR.specs ), lkp rowsR.live, ⟨lkp (rowsR.ospecs ), [], none, false, []⟩⟩
noncomputable def rowsR.go  (m : Nat)  : R := run (rowsR.cfg ) 25 rowsR.rs m [.code rowsR.body] (enter (ivA rowsR.ps ()))
theorem rowsR.start  (m : Nat)  : rowsR.go  (m + 1)  =
  some ((.c (.sl TRow (((⟨#[105, 110, 116, 101, 114, 118, 97, 108]⟩ : ByteArray), ((10 : Int), ((10000 : Int), (100 : Int)))) :: (((⟨#[116, 105, 109, 101, 111, 117, 116]⟩ : ByteArray), ((1 : Int), ((10000 : Int), (20 : Int)))) :: (((⟨#[106, 105, 116, 116, 101, 114]⟩ : ByteArray), ((0 : Int), ((1000 : Int), (0 : Int)))) :: (((⟨#[114, 105, 115, 101]⟩ : ByteArray), ((1 : Int), ((10 : Int), (2 : Int)))) :: (((⟨#[102, 97, 108, 108]⟩ : ByteArray), ((1 : Int), ((10 : Int), (3 : Int)))) :: (((⟨#[112, 97, 110, 105, 99]⟩ : ByteArray), ((0 : Int), ((100 : Int), (50 : Int)))) :: (((⟨#[111, 118, 101, 114]⟩ : ByteArray), ((100 : Int), ((1000 : Int), (140 : Int)))) :: (((⟨#[101, 114, 114, 111, 114, 115]⟩ : ByteArray), ((0 : Int), ((100 : Int), (5 : Int)))) :: (((⟨#[115, 119, 101, 101, 112]⟩ : ByteArray), ((10 : Int), ((10000 : Int), (1000 : Int)))) :: (((⟨#[104, 111, 115, 116, 115]⟩ : ByteArray), ((1 : Int), ((64 : Int), (5 : Int)))) :: (((⟨#[114, 101, 113, 117, 101, 115, 116, 115]⟩ : ByteArray), ((1 : Int), ((1000 : Int), (100 : Int)))) :: (((⟨#[102, 97, 99, 116, 111, 114]⟩ : ByteArray), ((0 : Int), ((10000 : Int), (1900 : Int)))) :: (((⟨#[102, 97, 105, 108, 115]⟩ : ByteArray), ((0 : Int), ((100 : Int), (0 : Int)))) :: (((⟨#[98, 97, 115, 101]⟩ : ByteArray), ((1 : Int), ((10000 : Int), (3000 : Int)))) :: (((⟨#[101, 106, 101, 99, 116]⟩ : ByteArray), ((0 : Int), ((100 : Int), (10 : Int)))) :: (((⟨#[111, 110, 101]⟩ : ByteArray), ((0 : Int), ((1 : Int), (1 : Int)))) :: (((⟨#[115, 108, 111, 119]⟩ : ByteArray), ((0 : Int), ((10000 : Int), (0 : Int)))) :: (((⟨#[100, 114, 97, 105, 110]⟩ : ByteArray), ((1 : Int), ((10000 : Int), (5000 : Int)))) :: (((⟨#[104, 111, 115, 116, 108, 105, 109, 105, 116]⟩ : ByteArray), ((1 : Int), ((1000 : Int), (1000 : Int)))) :: (((⟨#[112, 111, 111, 108, 108, 105, 109, 105, 116]⟩ : ByteArray), ((1 : Int), ((10000 : Int), (10000 : Int)))) :: (((⟨#[112, 111, 108, 105, 99, 121]⟩ : ByteArray), ((1 : Int), ((3 : Int), (1 : Int)))) :: (((⟨#[122, 111, 110, 101]⟩ : ByteArray), ((0 : Int), ((0 : Int), (0 : Int)))) :: (((⟨#[102, 97, 108, 108, 98, 97, 99, 107]⟩ : ByteArray), ((0 : Int), ((1 : Int), (0 : Int)))) :: ([] : List (El TNum))))))))))))))))))))))))))), []) := by kernel_rfl
theorem rowsR.run_eq  (m : Nat)  : run (rowsR.cfg ) Tryd.f25.ntmps Tryd.f25.results.toList m [.code (bodyOf Tryd.f25)] (enter (ivA rowsR.ps ())) = rowsR.go  m  := by kernel_rfl
theorem rowsR.ret  (hs : SpecsOK Tryd.prog (rowsR.specs ))   {m : Nat} {r : IV} (h : rowsR.go  m  = some (r, [])) : VE.Returns Tryd.prog 25 (ivA rowsR.ps ()) r :=
  returns_of_run (cfg := rowsR.cfg ) (cfgOK_of mixed tab_ok hs .nil) rfl Tryd.func25 (body_some (by kernel_rfl)) (Nat.le_of_ble_eq_true (by kernel_rfl)) ((rowsR.run_eq  m ).trans h)
abbrev rowsR.Law : Prop := ∀ (_ : Unit), rowsR.pre () = true → VE.Returns Tryd.prog 25 (ivA rowsR.ps ()) (rowsR.res ())
theorem rowsR.mkR (H : ∀ (_ : Unit), rowsR.pre () = true → VE.Returns Tryd.prog 25 (ivA rowsR.ps ()) (rowsR.res ())) : SpecOK Tryd.prog 25 rowsR.sp :=
  specOf_ret Tryd.func25 (by kernel_rfl) (by kernel_rfl) fun (x : Unit) hx => H () hx
theorem rowsR.mk  (hs : SpecsOK Tryd.prog (rowsR.specs ))  (H : ∀ (_ : Unit), rowsR.pre () = true → ∃ m, rowsR.go  m  = some (rowsR.res (), [])) : SpecOK Tryd.prog 25 rowsR.sp :=
  rowsR.mkR fun _ hx => (H () hx).elim fun _ hm => rowsR.ret  hs   hm

/-! ### triage/triageref1.made -/
abbrev madeR.ps : List AK := [.d false (.sl (.int .i64)), .d false .str]
def madeR.pre : ElA madeR.ps → Bool := fun (x : (List Int) × ByteArray × Unit) => fits (.sl (.int .i64)) (x.1) && (fits .str (x.2.1) && ((fun n _ => decide (List.length n = 23)) x.1 x.2.1 && (true)))
noncomputable def madeR.res : ElA madeR.ps → IV := fun (x : (List Int) × ByteArray × Unit) => (fun n z => mkIV true (enc TConfig (madeC n z))) x.1 x.2.1
noncomputable def madeR.sp : ISpec := spOf madeR.ps madeR.pre madeR.res
abbrev madeR.OK : Prop := SpecOK Tryd.prog 28 madeR.sp
noncomputable def madeR.body : Code := bodyOf Tryd.f28
noncomputable def madeR.rs : List ResultVar := Tryd.f28.results.toList
def madeR.live : List (Nat × Live) := []
noncomputable def madeR.specs  : List (Nat × (List Bool × ISpec)) := []
noncomputable def madeR.ospecs  : List (Nat × OS) := []
noncomputable def madeR.cfg  : Cfg := ⟨lkp tab, lkp (madeR.specs ), lkp madeR.live, ⟨lkp (madeR.ospecs ), [], none, false, []⟩⟩
noncomputable def madeR.go  (m : Nat) (x0 : (List Int)) (x1 : ByteArray) : R := run (madeR.cfg ) 75 madeR.rs m [.code madeR.body] (enter (ivA madeR.ps (x0, x1, ())))
theorem madeR.start  (m : Nat) (x0 : (List Int)) (x1 : ByteArray) : madeR.go  (m + 1) x0 x1 =
  test (decide ((0 : Int) < ((List.length x0) : Int))) (
   test (decide ((1 : Int) < ((List.length x0) : Int))) (
    test (decide ((2 : Int) < ((List.length x0) : Int))) (
     test (decide ((3 : Int) < ((List.length x0) : Int))) (
      test (decide ((4 : Int) < ((List.length x0) : Int))) (
       test (decide ((5 : Int) < ((List.length x0) : Int))) (
        test (decide ((6 : Int) < ((List.length x0) : Int))) (
         test (decide ((7 : Int) < ((List.length x0) : Int))) (
          test (decide ((8 : Int) < ((List.length x0) : Int))) (
           test (decide ((9 : Int) < ((List.length x0) : Int))) (
            test (decide ((10 : Int) < ((List.length x0) : Int))) (
             test (decide ((11 : Int) < ((List.length x0) : Int))) (
              test (decide ((12 : Int) < ((List.length x0) : Int))) (
               test (decide ((13 : Int) < ((List.length x0) : Int))) (
                test (decide ((14 : Int) < ((List.length x0) : Int))) (
                 test (decide ((15 : Int) < ((List.length x0) : Int))) (
                  test (decide ((16 : Int) < ((List.length x0) : Int))) (
                   test (decide ((17 : Int) < ((List.length x0) : Int))) (
                    test (decide ((18 : Int) < ((List.length x0) : Int))) (
                     test (decide ((19 : Int) < ((List.length x0) : Int))) (
                      test (decide ((20 : Int) < ((List.length x0) : Int))) (
                       test (decide ((22 : Int) < ((List.length x0) : Int))) (
                        some ((.agg [(.v (.int .i64 (rdEl (.int .i64) x0 (Int.toNat (0 : Int))))), (.v (.int .i64 (rdEl (.int .i64) x0 (Int.toNat (1 : Int))))), (.v (.int .i64 (rdEl (.int .i64) x0 (Int.toNat (2 : Int))))), (.v (.int .i64 (rdEl (.int .i64) x0 (Int.toNat (3 : Int))))), (.v (.int .i64 (rdEl (.int .i64) x0 (Int.toNat (4 : Int))))), (.v (.int .i64 (rdEl (.int .i64) x0 (Int.toNat (5 : Int))))), (.v (.int .i64 (rdEl (.int .i64) x0 (Int.toNat (6 : Int))))), (.v (.int .i64 (rdEl (.int .i64) x0 (Int.toNat (7 : Int))))), (.v (.int .i64 (rdEl (.int .i64) x0 (Int.toNat (8 : Int))))), (.v (.int .i64 (rdEl (.int .i64) x0 (Int.toNat (9 : Int))))), (.v (.int .i64 (rdEl (.int .i64) x0 (Int.toNat (10 : Int))))), (.v (.int .i64 (rdEl (.int .i64) x0 (Int.toNat (11 : Int))))), (.v (.int .i64 (rdEl (.int .i64) x0 (Int.toNat (12 : Int))))), (.v (.int .i64 (rdEl (.int .i64) x0 (Int.toNat (13 : Int))))), (.v (.int .i64 (rdEl (.int .i64) x0 (Int.toNat (14 : Int))))), (.v (.bool ((rdEl (.int .i64) x0 (Int.toNat (15 : Int))) == (1 : Int)))), (.v (.int .i64 (rdEl (.int .i64) x0 (Int.toNat (16 : Int))))), (.v (.int .i64 (rdEl (.int .i64) x0 (Int.toNat (17 : Int))))), (.v (.int .i64 (rdEl (.int .i64) x0 (Int.toNat (18 : Int))))), (.v (.int .i64 (rdEl (.int .i64) x0 (Int.toNat (19 : Int))))), (.v (.int .i64 (rdEl (.int .i64) x0 (Int.toNat (20 : Int))))), (.v (.string x1)), (.v (.bool ((rdEl (.int .i64) x0 (Int.toNat (22 : Int))) == (1 : Int))))]), []))))))))))))))))))))))) := by kernel_rfl
theorem madeR.run_eq  (m : Nat) (x0 : (List Int)) (x1 : ByteArray) : run (madeR.cfg ) Tryd.f28.ntmps Tryd.f28.results.toList m [.code (bodyOf Tryd.f28)] (enter (ivA madeR.ps (x0, x1, ()))) = madeR.go  m x0 x1 := by kernel_rfl
theorem madeR.ret  (hs : SpecsOK Tryd.prog (madeR.specs ))  (x0 : (List Int)) (x1 : ByteArray) {m : Nat} {r : IV} (h : madeR.go  m x0 x1 = some (r, [])) : VE.Returns Tryd.prog 28 (ivA madeR.ps (x0, x1, ())) r :=
  returns_of_run (cfg := madeR.cfg ) (cfgOK_of mixed tab_ok hs .nil) rfl Tryd.func28 (body_some (by kernel_rfl)) (Nat.le_of_ble_eq_true (by kernel_rfl)) ((madeR.run_eq  m x0 x1).trans h)
abbrev madeR.Law : Prop := ∀ (x0 : (List Int)) (x1 : ByteArray), madeR.pre (x0, x1, ()) = true → VE.Returns Tryd.prog 28 (ivA madeR.ps (x0, x1, ())) (madeR.res (x0, x1, ()))
theorem madeR.mkR (H : ∀ (x0 : (List Int)) (x1 : ByteArray), madeR.pre (x0, x1, ()) = true → VE.Returns Tryd.prog 28 (ivA madeR.ps (x0, x1, ())) (madeR.res (x0, x1, ()))) : SpecOK Tryd.prog 28 madeR.sp :=
  specOf_ret Tryd.func28 (by kernel_rfl) (by kernel_rfl) fun (x : (List Int) × ByteArray × Unit) hx => H (x.1) (x.2.1) hx
theorem madeR.mk  (hs : SpecsOK Tryd.prog (madeR.specs ))  (H : ∀ (x0 : (List Int)) (x1 : ByteArray), madeR.pre (x0, x1, ()) = true → ∃ m, madeR.go  m x0 x1 = some (madeR.res (x0, x1, ()), [])) : SpecOK Tryd.prog 28 madeR.sp :=
  madeR.mkR fun x0 x1 hx => (H x0 x1 hx).elim fun _ hm => madeR.ret  hs  x0 x1 hm

/-! ### triage/triageref1.Default -/
abbrev defR.ps : List AK := []
def defR.pre : ElA defR.ps → Bool := fun (x : Unit) => true
noncomputable def defR.res : ElA defR.ps → IV := fun (x : Unit) => (mkIV true (enc TConfig defC)) 
noncomputable def defR.sp : ISpec := spOf defR.ps defR.pre defR.res
abbrev defR.OK : Prop := SpecOK Tryd.prog 18 defR.sp
noncomputable def defR.body : Code := bodyOf Tryd.f18
noncomputable def defR.rs : List ResultVar := Tryd.f18.results.toList
def defR.live : List (Nat × Live) := [(3, ⟨[(0, .plain), (1, .arr 3 (.int .i64)), (4, .sl TRow), (5, .plain), (6, .plain)], [(1, [])]⟩)]
noncomputable def defR.specs  : List (Nat × (List Bool × ISpec)) := [(25, ([], rowsR.sp)), (28, ([], madeR.sp))]
noncomputable def defR.ospecs  : List (Nat × OS) := []
noncomputable def defR.cfg  : Cfg := ⟨lkp tab, lkp (defR.specs ), lkp defR.live, ⟨lkp (defR.ospecs ), [], none, false, []⟩⟩
noncomputable def defR.l1  (m : Nat) (x0 : List (El TNum)) (x1 : Int) (x2 : Int) (x3 : List Int) (x4 : Int) (x5 : Int) (x6 : Int) (x7 : Int) (x8 : Int) (x9 : Int) (x10 : Int) (x11 : Int) (x12 : Int) (x13 : Int) (x14 : Int) (x15 : Int) (x16 : Int) (x17 : Int) (x18 : Int) (x19 : Bool) (x20 : Int) (x21 : Int) (x22 : Int) (x23 : Int) (x24 : Int) (x25 : ByteArray) (x26 : Bool) : R := run (defR.cfg ) 18 defR.rs m ((todoR 3 defR.body []).getD []) ⟨ofList (.c .junk) [(0, (.c (.ref 1 0))), (1, (.c (.sref 254))), (4, (.c (.sl TRow x0))), (5, (.c (.v (.int .i64 x1)))), (6, (.c (.v (.int .i64 x2))))], ofList none [(254, some (.arr 3 (.int .i64) x3 false)), (1, some (.cells 23 [(.v (.int .i64 x4)), (.v (.int .i64 x5)), (.v (.int .i64 x6)), (.v (.int .i64 x7)), (.v (.int .i64 x8)), (.v (.int .i64 x9)), (.v (.int .i64 x10)), (.v (.int .i64 x11)), (.v (.int .i64 x12)), (.v (.int .i64 x13)), (.v (.int .i64 x14)), (.v (.int .i64 x15)), (.v (.int .i64 x16)), (.v (.int .i64 x17)), (.v (.int .i64 x18)), (.v (.bool x19)), (.v (.int .i64 x20)), (.v (.int .i64 x21)), (.v (.int .i64 x22)), (.v (.int .i64 x23)), (.v (.int .i64 x24)), (.v (.string x25)), (.v (.bool x26))]))], ofList false [(254, true), (1, true)]⟩
noncomputable def defR.go  (m : Nat)  : R := run (defR.cfg ) 18 defR.rs m [.code defR.body] (enter (ivA defR.ps ()))
theorem defR.start  (m : Nat)  : defR.go  (m + 1)  =
  defR.l1  m rowsL ((List.length rowsL) : Int) (0 : Int) ([] : List Int) (0 : Int) (0 : Int) (0 : Int) (0 : Int) (0 : Int) (0 : Int) (0 : Int) (0 : Int) (0 : Int) (0 : Int) (0 : Int) (0 : Int) (0 : Int) (0 : Int) (0 : Int) false (0 : Int) (0 : Int) (0 : Int) (0 : Int) (0 : Int) (⟨#[]⟩ : ByteArray) false := by kernel_rfl
theorem defR.s1  (m : Nat) (x0 : List (El TNum)) (x1 : Int) (x2 : Int) (x3 : List Int) (x4 : Int) (x5 : Int) (x6 : Int) (x7 : Int) (x8 : Int) (x9 : Int) (x10 : Int) (x11 : Int) (x12 : Int) (x13 : Int) (x14 : Int) (x15 : Int) (x16 : Int) (x17 : Int) (x18 : Int) (x19 : Bool) (x20 : Int) (x21 : Int) (x22 : Int) (x23 : Int) (x24 : Int) (x25 : ByteArray) (x26 : Bool) : defR.l1  (m + 1) x0 x1 x2 x3 x4 x5 x6 x7 x8 x9 x10 x11 x12 x13 x14 x15 x16 x17 x18 x19 x20 x21 x22 x23 x24 x25 x26 =
  cond (decide (x2 < x1)) (
   test (decide ((0 : Int) ≤ x2)) (
    test (decide (x2 < ((List.length x0) : Int))) (
     test (decide (((List.length x3) + (List.length (((((rdEl TRow x0 (Int.toNat x2))).2).2).2 :: ([] : List Int)))) ≤ (lim 8))) (
      defR.l1  m x0 x1 (IntKind.i64.wrap (x2 + (1 : Int))) (x3 ++ (((((rdEl TRow x0 (Int.toNat x2))).2).2).2 :: ([] : List Int))) x4 x5 x6 x7 x8 x9 x10 x11 x12 x13 x14 x15 x16 x17 x18 x19 x20 x21 x22 x23 x24 x25 x26)))) (
   test (madeR.pre (x3, ((⟨#[]⟩ : ByteArray), Unit.unit))) (
    some ((.agg [(.v (.int .i64 ((madeC x3 (⟨#[]⟩ : ByteArray))).1)), (.v (.int .i64 (((madeC x3 (⟨#[]⟩ : ByteArray))).2).1)), (.v (.int .i64 ((((madeC x3 (⟨#[]⟩ : ByteArray))).2).2).1)), (.v (.int .i64 (((((madeC x3 (⟨#[]⟩ : ByteArray))).2).2).2).1)), (.v (.int .i64 ((((((madeC x3 (⟨#[]⟩ : ByteArray))).2).2).2).2).1)), (.v (.int .i64 (((((((madeC x3 (⟨#[]⟩ : ByteArray))).2).2).2).2).2).1)), (.v (.int .i64 ((((((((madeC x3 (⟨#[]⟩ : ByteArray))).2).2).2).2).2).2).1)), (.v (.int .i64 (((((((((madeC x3 (⟨#[]⟩ : ByteArray))).2).2).2).2).2).2).2).1)), (.v (.int .i64 ((((((((((madeC x3 (⟨#[]⟩ : ByteArray))).2).2).2).2).2).2).2).2).1)), (.v (.int .i64 (((((((((((madeC x3 (⟨#[]⟩ : ByteArray))).2).2).2).2).2).2).2).2).2).1)), (.v (.int .i64 ((((((((((((madeC x3 (⟨#[]⟩ : ByteArray))).2).2).2).2).2).2).2).2).2).2).1)), (.v (.int .i64 (((((((((((((madeC x3 (⟨#[]⟩ : ByteArray))).2).2).2).2).2).2).2).2).2).2).2).1)), (.v (.int .i64 ((((((((((((((madeC x3 (⟨#[]⟩ : ByteArray))).2).2).2).2).2).2).2).2).2).2).2).2).1)), (.v (.int .i64 (((((((((((((((madeC x3 (⟨#[]⟩ : ByteArray))).2).2).2).2).2).2).2).2).2).2).2).2).2).1)), (.v (.int .i64 ((((((((((((((((madeC x3 (⟨#[]⟩ : ByteArray))).2).2).2).2).2).2).2).2).2).2).2).2).2).2).1)), (.v (.bool (((((((((((((((((madeC x3 (⟨#[]⟩ : ByteArray))).2).2).2).2).2).2).2).2).2).2).2).2).2).2).2).1)), (.v (.int .i64 ((((((((((((((((((madeC x3 (⟨#[]⟩ : ByteArray))).2).2).2).2).2).2).2).2).2).2).2).2).2).2).2).2).1)), (.v (.int .i64 (((((((((((((((((((madeC x3 (⟨#[]⟩ : ByteArray))).2).2).2).2).2).2).2).2).2).2).2).2).2).2).2).2).2).1)), (.v (.int .i64 ((((((((((((((((((((madeC x3 (⟨#[]⟩ : ByteArray))).2).2).2).2).2).2).2).2).2).2).2).2).2).2).2).2).2).2).1)), (.v (.int .i64 (((((((((((((((((((((madeC x3 (⟨#[]⟩ : ByteArray))).2).2).2).2).2).2).2).2).2).2).2).2).2).2).2).2).2).2).2).1)), (.v (.int .i64 ((((((((((((((((((((((madeC x3 (⟨#[]⟩ : ByteArray))).2).2).2).2).2).2).2).2).2).2).2).2).2).2).2).2).2).2).2).2).1)), (.v (.string (((((((((((((((((((((((madeC x3 (⟨#[]⟩ : ByteArray))).2).2).2).2).2).2).2).2).2).2).2).2).2).2).2).2).2).2).2).2).2).1)), (.v (.bool (((((((((((((((((((((((madeC x3 (⟨#[]⟩ : ByteArray))).2).2).2).2).2).2).2).2).2).2).2).2).2).2).2).2).2).2).2).2).2).2))]), []))) := by kernel_rfl
theorem defR.run_eq  (m : Nat)  : run (defR.cfg ) Tryd.f18.ntmps Tryd.f18.results.toList m [.code (bodyOf Tryd.f18)] (enter (ivA defR.ps ())) = defR.go  m  := by kernel_rfl
theorem defR.ret  (hs : SpecsOK Tryd.prog (defR.specs ))   {m : Nat} {r : IV} (h : defR.go  m  = some (r, [])) : VE.Returns Tryd.prog 18 (ivA defR.ps ()) r :=
  returns_of_run (cfg := defR.cfg ) (cfgOK_of mixed tab_ok hs .nil) rfl Tryd.func18 (body_some (by kernel_rfl)) (Nat.le_of_ble_eq_true (by kernel_rfl)) ((defR.run_eq  m ).trans h)
abbrev defR.Law : Prop := ∀ (_ : Unit), defR.pre () = true → VE.Returns Tryd.prog 18 (ivA defR.ps ()) (defR.res ())
theorem defR.mkR (H : ∀ (_ : Unit), defR.pre () = true → VE.Returns Tryd.prog 18 (ivA defR.ps ()) (defR.res ())) : SpecOK Tryd.prog 18 defR.sp :=
  specOf_ret Tryd.func18 (by kernel_rfl) (by kernel_rfl) fun (x : Unit) hx => H () hx
theorem defR.mk  (hs : SpecsOK Tryd.prog (defR.specs ))  (H : ∀ (_ : Unit), defR.pre () = true → ∃ m, defR.go  m  = some (defR.res (), [])) : SpecOK Tryd.prog 18 defR.sp :=
  defR.mkR fun _ hx => (H () hx).elim fun _ hm => defR.ret  hs   hm

/-! ### triage/triageref1.MayConfig -/
abbrev mayCR.ps : List AK := [.d true TConfig]
def mayCR.pre : ElA mayCR.ps → Bool := fun (x : (El TConfig) × Unit) => fits TConfig (x.1) && (true)
noncomputable def mayCR.res : ElA mayCR.ps → IV := fun (x : (El TConfig) × Unit) => (fun c => vb (mayC c)) x.1
noncomputable def mayCR.sp : ISpec := spOf mayCR.ps mayCR.pre mayCR.res
abbrev mayCR.OK : Prop := SpecOK Tryd.prog 16 mayCR.sp
noncomputable def mayCR.body : Code := bodyOf Tryd.f16
noncomputable def mayCR.rs : List ResultVar := Tryd.f16.results.toList
def mayCR.live : List (Nat × Live) := [(3, ⟨[(1, .plain), (3, .sl (.int .i64)), (8, .sl TRow), (9, .plain), (10, .plain)], [(1, [])]⟩)]
noncomputable def mayCR.specs  : List (Nat × (List Bool × ISpec)) := [(24, ([], numsR.sp)), (25, ([], rowsR.sp)), (20, ([], wordR.sp))]
noncomputable def mayCR.ospecs  : List (Nat × OS) := []
noncomputable def mayCR.cfg  : Cfg := ⟨lkp tab, lkp (mayCR.specs ), lkp mayCR.live, ⟨lkp (mayCR.ospecs ), [], none, false, []⟩⟩
noncomputable def mayCR.l1  (m : Nat) (x0 : List Int) (x1 : List (El TNum)) (x2 : Int) (x3 : Int) (x4 : Int) (x5 : Int) (x6 : Int) (x7 : Int) (x8 : Int) (x9 : Int) (x10 : Int) (x11 : Int) (x12 : Int) (x13 : Int) (x14 : Int) (x15 : Int) (x16 : Int) (x17 : Int) (x18 : Int) (x19 : Bool) (x20 : Int) (x21 : Int) (x22 : Int) (x23 : Int) (x24 : Int) (x25 : ByteArray) (x26 : Bool) : R := run (mayCR.cfg ) 40 mayCR.rs m ((todoR 3 mayCR.body []).getD []) ⟨ofList (.c .junk) [(1, (.c (.ref 1 0))), (3, (.c (.sl (.int .i64) x0))), (8, (.c (.sl TRow x1))), (9, (.c (.v (.int .i64 x2)))), (10, (.c (.v (.int .i64 x3))))], ofList none [(1, some (.cells 23 [(.v (.int .i64 x4)), (.v (.int .i64 x5)), (.v (.int .i64 x6)), (.v (.int .i64 x7)), (.v (.int .i64 x8)), (.v (.int .i64 x9)), (.v (.int .i64 x10)), (.v (.int .i64 x11)), (.v (.int .i64 x12)), (.v (.int .i64 x13)), (.v (.int .i64 x14)), (.v (.int .i64 x15)), (.v (.int .i64 x16)), (.v (.int .i64 x17)), (.v (.int .i64 x18)), (.v (.bool x19)), (.v (.int .i64 x20)), (.v (.int .i64 x21)), (.v (.int .i64 x22)), (.v (.int .i64 x23)), (.v (.int .i64 x24)), (.v (.string x25)), (.v (.bool x26))]))], ofList false [(1, true)]⟩
noncomputable def mayCR.go  (m : Nat) (x0 : (El TConfig)) : R := run (mayCR.cfg ) 40 mayCR.rs m [.code mayCR.body] (enter (ivA mayCR.ps (x0, ())))
theorem mayCR.start  (m : Nat) (x0 : (El TConfig)) : mayCR.go  (m + 1) x0 =
  test (numsR.pre (x0, Unit.unit)) (
   mayCR.l1  m (numsL x0) rowsL ((List.length rowsL) : Int) (0 : Int) x0.1 x0.2.1 x0.2.2.1 x0.2.2.2.1 x0.2.2.2.2.1 x0.2.2.2.2.2.1 x0.2.2.2.2.2.2.1 x0.2.2.2.2.2.2.2.1 x0.2.2.2.2.2.2.2.2.1 x0.2.2.2.2.2.2.2.2.2.1 x0.2.2.2.2.2.2.2.2.2.2.1 x0.2.2.2.2.2.2.2.2.2.2.2.1 x0.2.2.2.2.2.2.2.2.2.2.2.2.1 x0.2.2.2.2.2.2.2.2.2.2.2.2.2.1 x0.2.2.2.2.2.2.2.2.2.2.2.2.2.2.1 x0.2.2.2.2.2.2.2.2.2.2.2.2.2.2.2.1 x0.2.2.2.2.2.2.2.2.2.2.2.2.2.2.2.2.1 x0.2.2.2.2.2.2.2.2.2.2.2.2.2.2.2.2.2.1 x0.2.2.2.2.2.2.2.2.2.2.2.2.2.2.2.2.2.2.1 x0.2.2.2.2.2.2.2.2.2.2.2.2.2.2.2.2.2.2.2.1 x0.2.2.2.2.2.2.2.2.2.2.2.2.2.2.2.2.2.2.2.2.1 x0.2.2.2.2.2.2.2.2.2.2.2.2.2.2.2.2.2.2.2.2.2.1 x0.2.2.2.2.2.2.2.2.2.2.2.2.2.2.2.2.2.2.2.2.2.2) := by kernel_rfl
theorem mayCR.s1  (m : Nat) (x0 : List Int) (x1 : List (El TNum)) (x2 : Int) (x3 : Int) (x4 : Int) (x5 : Int) (x6 : Int) (x7 : Int) (x8 : Int) (x9 : Int) (x10 : Int) (x11 : Int) (x12 : Int) (x13 : Int) (x14 : Int) (x15 : Int) (x16 : Int) (x17 : Int) (x18 : Int) (x19 : Bool) (x20 : Int) (x21 : Int) (x22 : Int) (x23 : Int) (x24 : Int) (x25 : ByteArray) (x26 : Bool) : mayCR.l1  (m + 1) x0 x1 x2 x3 x4 x5 x6 x7 x8 x9 x10 x11 x12 x13 x14 x15 x16 x17 x18 x19 x20 x21 x22 x23 x24 x25 x26 =
  cond (decide (x3 < x2)) (
   test (decide ((0 : Int) ≤ x3)) (
    test (decide (x3 < ((List.length x1) : Int))) (
     test (decide ((0 : Int) ≤ x3)) (
      test (decide (x3 < ((List.length x0) : Int))) (
       cond (decide ((rdEl (.int .i64) x0 (Int.toNat x3)) < (((rdEl TRow x1 (Int.toNat x3))).2).1)) (
        some ((.c (.v (.bool false))), [])) (
        test (decide ((0 : Int) ≤ x3)) (
         test (decide (x3 < ((List.length x0) : Int))) (
          cond (decide ((rdEl (.int .i64) x0 (Int.toNat x3)) > ((((rdEl TRow x1 (Int.toNat x3))).2).2).1)) (
           some ((.c (.v (.bool false))), [])) (
           mayCR.l1  m x0 x1 x2 (IntKind.i64.wrap (x3 + (1 : Int))) x4 x5 x6 x7 x8 x9 x10 x11 x12 x13 x14 x15 x16 x17 x18 x19 x20 x21 x22 x23 x24 x25 x26))))))))) (
   cond ((ByteArray.toList x25) == (ByteArray.toList (⟨#[]⟩ : ByteArray))) (
    some ((.c (.v (.bool true))), [])) (
    test (wordR.pre (x25, Unit.unit)) (
     some ((.c (.v (.bool (nameB x25)))), [])))) := by kernel_rfl
theorem mayCR.run_eq  (m : Nat) (x0 : (El TConfig)) : run (mayCR.cfg ) Tryd.f16.ntmps Tryd.f16.results.toList m [.code (bodyOf Tryd.f16)] (enter (ivA mayCR.ps (x0, ()))) = mayCR.go  m x0 := by kernel_rfl
theorem mayCR.ret  (hs : SpecsOK Tryd.prog (mayCR.specs ))  (x0 : (El TConfig)) {m : Nat} {r : IV} (h : mayCR.go  m x0 = some (r, [])) : VE.Returns Tryd.prog 16 (ivA mayCR.ps (x0, ())) r :=
  returns_of_run (cfg := mayCR.cfg ) (cfgOK_of mixed tab_ok hs .nil) rfl Tryd.func16 (body_some (by kernel_rfl)) (Nat.le_of_ble_eq_true (by kernel_rfl)) ((mayCR.run_eq  m x0).trans h)
abbrev mayCR.Law : Prop := ∀ (x0 : (El TConfig)), mayCR.pre (x0, ()) = true → VE.Returns Tryd.prog 16 (ivA mayCR.ps (x0, ())) (mayCR.res (x0, ()))
theorem mayCR.mkR (H : ∀ (x0 : (El TConfig)), mayCR.pre (x0, ()) = true → VE.Returns Tryd.prog 16 (ivA mayCR.ps (x0, ())) (mayCR.res (x0, ()))) : SpecOK Tryd.prog 16 mayCR.sp :=
  specOf_ret Tryd.func16 (by kernel_rfl) (by kernel_rfl) fun (x : (El TConfig) × Unit) hx => H (x.1) hx
theorem mayCR.mk  (hs : SpecsOK Tryd.prog (mayCR.specs ))  (H : ∀ (x0 : (El TConfig)), mayCR.pre (x0, ()) = true → ∃ m, mayCR.go  m x0 = some (mayCR.res (x0, ()), [])) : SpecOK Tryd.prog 16 mayCR.sp :=
  mayCR.mkR fun x0 hx => (H x0 hx).elim fun _ hm => mayCR.ret  hs  x0 hm

/-! ### triage/config.Default -/
abbrev cDef.ps : List AK := []
def cDef.pre : ElA cDef.ps → Bool := fun (x : Unit) => true
noncomputable def cDef.res : ElA cDef.ps → IV := fun (x : Unit) => (mkIV true (enc TConfig defC)) 
noncomputable def cDef.sp : ISpec := spOf cDef.ps cDef.pre cDef.res
abbrev cDef.OK : Prop := SpecOK Tryd.prog 17 cDef.sp
noncomputable def cDef.body : Code := bodyOf Tryd.f17
noncomputable def cDef.rs : List ResultVar := Tryd.f17.results.toList
def cDef.live : List (Nat × Live) := []
noncomputable def cDef.specs  : List (Nat × (List Bool × ISpec)) := []
noncomputable def cDef.ospecs  : List (Nat × OS) := []
noncomputable def cDef.cfg  : Cfg := ⟨lkp tab, lkp (cDef.specs ), lkp cDef.live, ⟨lkp (cDef.ospecs ), [], none, false, []⟩⟩
noncomputable def cDef.go  (m : Nat)  : R := run (cDef.cfg ) 2 cDef.rs m [.code cDef.body] (enter (ivA cDef.ps ()))
theorem cDef.start  (m : Nat)  : cDef.go  (m + 1)  =
  some ((.agg [(.v (.int .i64 (100 : Int))), (.v (.int .i64 (20 : Int))), (.v (.int .i64 (0 : Int))), (.v (.int .i64 (2 : Int))), (.v (.int .i64 (3 : Int))), (.v (.int .i64 (50 : Int))), (.v (.int .i64 (140 : Int))), (.v (.int .i64 (5 : Int))), (.v (.int .i64 (1000 : Int))), (.v (.int .i64 (5 : Int))), (.v (.int .i64 (100 : Int))), (.v (.int .i64 (1900 : Int))), (.v (.int .i64 (0 : Int))), (.v (.int .i64 (3000 : Int))), (.v (.int .i64 (10 : Int))), (.v (.bool true)), (.v (.int .i64 (0 : Int))), (.v (.int .i64 (5000 : Int))), (.v (.int .i64 (1000 : Int))), (.v (.int .i64 (10000 : Int))), (.v (.int .i64 (1 : Int))), (.v (.string (⟨#[]⟩ : ByteArray))), (.v (.bool false))]), []) := by kernel_rfl
theorem cDef.run_eq  (m : Nat)  : run (cDef.cfg ) Tryd.f17.ntmps Tryd.f17.results.toList m [.code (bodyOf Tryd.f17)] (enter (ivA cDef.ps ())) = cDef.go  m  := by kernel_rfl
theorem cDef.ret  (hs : SpecsOK Tryd.prog (cDef.specs ))   {m : Nat} {r : IV} (h : cDef.go  m  = some (r, [])) : VE.Returns Tryd.prog 17 (ivA cDef.ps ()) r :=
  returns_of_run (cfg := cDef.cfg ) (cfgOK_of mixed tab_ok hs .nil) rfl Tryd.func17 (body_some (by kernel_rfl)) (Nat.le_of_ble_eq_true (by kernel_rfl)) ((cDef.run_eq  m ).trans h)
abbrev cDef.Law : Prop := ∀ (_ : Unit), cDef.pre () = true → VE.Returns Tryd.prog 17 (ivA cDef.ps ()) (cDef.res ())
theorem cDef.mkR (H : ∀ (_ : Unit), cDef.pre () = true → VE.Returns Tryd.prog 17 (ivA cDef.ps ()) (cDef.res ())) : SpecOK Tryd.prog 17 cDef.sp :=
  specOf_ret Tryd.func17 (by kernel_rfl) (by kernel_rfl) fun (x : Unit) hx => H () hx
theorem cDef.mk  (hs : SpecsOK Tryd.prog (cDef.specs ))  (H : ∀ (_ : Unit), cDef.pre () = true → ∃ m, cDef.go  m  = some (cDef.res (), [])) : SpecOK Tryd.prog 17 cDef.sp :=
  cDef.mkR fun _ hx => (H () hx).elim fun _ hm => cDef.ret  hs   hm

/-! ### triage/config.numbers -/
abbrev numbers.ps : List AK := [.q TConfig]
def numbers.pre : ElA numbers.ps → Bool := fun (x : (El TConfig) × Unit) => fits TConfig (x.1) && (true)
noncomputable def numbers.rv : ElA numbers.ps → List RV := fun (x : (El TConfig) × Unit) => [.m 68 TNum ((fun c => firstL c) x.1), .m 68 TNum ((fun c => secondL c) x.1)]
noncomputable def numbers.res : ElA numbers.ps → IV := fun x => oneOrTup (rvIVs 0 (numbers.rv x))
noncomputable def numbers.back : ElA numbers.ps → List (Nat × Box) := fun (x : (El TConfig) × Unit) => rvBxs 0 (numbers.rv x)
noncomputable def numbers.sp : OSpec := spO numbers.ps numbers.pre numbers.res numbers.back
abbrev numbers.OK : Prop := SpecOKO Tryd.prog 29 numbers.sp
noncomputable def numbers.body : Code := bodyOf Tryd.f29
noncomputable def numbers.rs : List ResultVar := Tryd.f29.results.toList
def numbers.live : List (Nat × Live) := []
noncomputable def numbers.specs  : List (Nat × (List Bool × ISpec)) := []
noncomputable def numbers.ospecs  : List (Nat × OS) := []
noncomputable def numbers.cfg  : Cfg := ⟨lkp tab, lkp (numbers.specs ), lkp numbers.live, ⟨lkp (numbers.ospecs ), oids 0 numbers.ps, some ([.arr 68 TNum, .arr 68 TNum], []), false, []⟩⟩
noncomputable def numbers.go  (m : Nat) (x0 : (El TConfig)) : R := run (numbers.cfg ) 82 numbers.rs m [.code numbers.body] (enterO (ivAO 0 numbers.ps (x0, ())) (bxAO 0 numbers.ps (x0, ())))
theorem numbers.start  (m : Nat) (x0 : (El TConfig)) : numbers.go  (m + 1) x0 =
  some ((.tup [(.c (.sref 115326)), (.c (.sref 115454))]), [(115326, (.arr 68 TNum (((⟨#[105, 110, 116, 101, 114, 118, 97, 108]⟩ : ByteArray), (x0.1, ((10 : Int), (10000 : Int)))) :: (((⟨#[116, 105, 109, 101, 111, 117, 116]⟩ : ByteArray), (x0.2.1, ((1 : Int), (10000 : Int)))) :: (((⟨#[106, 105, 116, 116, 101, 114]⟩ : ByteArray), (x0.2.2.1, ((0 : Int), (1000 : Int)))) :: (((⟨#[114, 105, 115, 101]⟩ : ByteArray), (x0.2.2.2.1, ((1 : Int), (10 : Int)))) :: (((⟨#[102, 97, 108, 108]⟩ : ByteArray), (x0.2.2.2.2.1, ((1 : Int), (10 : Int)))) :: (((⟨#[112, 97, 110, 105, 99]⟩ : ByteArray), (x0.2.2.2.2.2.1, ((0 : Int), (100 : Int)))) :: (((⟨#[111, 118, 101, 114]⟩ : ByteArray), (x0.2.2.2.2.2.2.1, ((100 : Int), (1000 : Int)))) :: (((⟨#[101, 114, 114, 111, 114, 115]⟩ : ByteArray), (x0.2.2.2.2.2.2.2.1, ((0 : Int), (100 : Int)))) :: (((⟨#[115, 119, 101, 101, 112]⟩ : ByteArray), (x0.2.2.2.2.2.2.2.2.1, ((10 : Int), (10000 : Int)))) :: (((⟨#[104, 111, 115, 116, 115]⟩ : ByteArray), (x0.2.2.2.2.2.2.2.2.2.1, ((1 : Int), (64 : Int)))) :: (((⟨#[114, 101, 113, 117, 101, 115, 116, 115]⟩ : ByteArray), (x0.2.2.2.2.2.2.2.2.2.2.1, ((1 : Int), (1000 : Int)))) :: (((⟨#[102, 97, 99, 116, 111, 114]⟩ : ByteArray), (x0.2.2.2.2.2.2.2.2.2.2.2.1, ((0 : Int), (10000 : Int)))) :: (((⟨#[102, 97, 105, 108, 115]⟩ : ByteArray), (x0.2.2.2.2.2.2.2.2.2.2.2.2.1, ((0 : Int), (100 : Int)))) :: (((⟨#[98, 97, 115, 101]⟩ : ByteArray), (x0.2.2.2.2.2.2.2.2.2.2.2.2.2.1, ((1 : Int), (10000 : Int)))) :: (((⟨#[101, 106, 101, 99, 116]⟩ : ByteArray), (x0.2.2.2.2.2.2.2.2.2.2.2.2.2.2.1, ((0 : Int), (100 : Int)))) :: ([] : List (El TNum))))))))))))))))) false)), (115454, (.arr 68 TNum (((⟨#[115, 108, 111, 119]⟩ : ByteArray), (x0.2.2.2.2.2.2.2.2.2.2.2.2.2.2.2.2.1, ((0 : Int), (10000 : Int)))) :: (((⟨#[100, 114, 97, 105, 110]⟩ : ByteArray), (x0.2.2.2.2.2.2.2.2.2.2.2.2.2.2.2.2.2.1, ((1 : Int), (10000 : Int)))) :: (((⟨#[104, 111, 115, 116, 108, 105, 109, 105, 116]⟩ : ByteArray), (x0.2.2.2.2.2.2.2.2.2.2.2.2.2.2.2.2.2.2.1, ((1 : Int), (1000 : Int)))) :: (((⟨#[112, 111, 111, 108, 108, 105, 109, 105, 116]⟩ : ByteArray), (x0.2.2.2.2.2.2.2.2.2.2.2.2.2.2.2.2.2.2.2.1, ((1 : Int), (10000 : Int)))) :: ([] : List (El TNum)))))) false))]) := by kernel_rfl
theorem numbers.run_eq  (m : Nat) (x0 : (El TConfig)) : run (numbers.cfg ) Tryd.f29.ntmps Tryd.f29.results.toList m [.code (bodyOf Tryd.f29)] (enterO (ivAO 0 numbers.ps (x0, ())) (bxAO 0 numbers.ps (x0, ()))) = numbers.go  m x0 := by kernel_rfl
theorem numbers.ret  (hs : SpecsOK Tryd.prog (numbers.specs ))  (x0 : (El TConfig)) {m : Nat} {r : IV} {b : List (Nat × Box)} (h : numbers.go  m x0 = some (r, b)) : VE.ReturnsO Tryd.prog 29 (ivAO 0 numbers.ps (x0, ())) (bxAO 0 numbers.ps (x0, ())) r b :=
  returnsO_of_run (cfg := numbers.cfg ) (cfgOK_of mixed tab_ok hs .nil) rfl Tryd.func29 (body_some (by kernel_rfl)) (Nat.le_of_ble_eq_true (by kernel_rfl)) (fun _ _ _ h => oids_mem h) ((numbers.run_eq  m x0).trans h)
abbrev numbers.Law : Prop := ∀ (x0 : (El TConfig)), numbers.pre (x0, ()) = true → VE.ReturnsO Tryd.prog 29 (ivAO 0 numbers.ps (x0, ())) (bxAO 0 numbers.ps (x0, ())) (numbers.res (x0, ())) (numbers.back (x0, ()))
theorem numbers.mkR (H : ∀ (x0 : (El TConfig)), numbers.pre (x0, ()) = true → VE.ReturnsO Tryd.prog 29 (ivAO 0 numbers.ps (x0, ())) (bxAO 0 numbers.ps (x0, ())) (numbers.res (x0, ())) (numbers.back (x0, ()))) : SpecOKO Tryd.prog 29 numbers.sp :=
  specO_ret Tryd.func29 (by kernel_rfl) (by kernel_rfl) fun (x : (El TConfig) × Unit) hx => H (x.1) hx
theorem numbers.mk  (hs : SpecsOK Tryd.prog (numbers.specs ))  (H : ∀ (x0 : (El TConfig)), numbers.pre (x0, ()) = true → ∃ m, numbers.go  m x0 = some (numbers.res (x0, ()), numbers.back (x0, ()))) : SpecOKO Tryd.prog 29 numbers.sp :=
  numbers.mkR fun x0 hx => (H x0 hx).elim fun _ hm => numbers.ret  hs  x0 hm

/-! ### triage/config.May -/
abbrev cMay.ps : List AK := [.d true TConfig]
def cMay.pre : ElA cMay.ps → Bool := fun (x : (El TConfig) × Unit) => fits TConfig (x.1) && (true)
noncomputable def cMay.res : ElA cMay.ps → IV := fun (x : (El TConfig) × Unit) => (fun c => vb (mayC c)) x.1
noncomputable def cMay.sp : ISpec := spOf cMay.ps cMay.pre cMay.res
abbrev cMay.OK : Prop := SpecOK Tryd.prog 15 cMay.sp
noncomputable def cMay.body : Code := bodyOf Tryd.f15
noncomputable def cMay.rs : List ResultVar := Tryd.f15.results.toList
def cMay.live : List (Nat × Live) := [(3, ⟨[(1, .plain), (13, .sl TNum), (14, .plain), (15, .plain)], [(1, [])]⟩)]
noncomputable def cMay.specs  : List (Nat × (List Bool × ISpec)) := [(35, ([], nameW.sp))]
noncomputable def cMay.ospecs  : List (Nat × OS) := [(29, ⟨[], [true], numbers.sp⟩)]
noncomputable def cMay.cfg  : Cfg := ⟨lkp tab, lkp (cMay.specs ), lkp cMay.live, ⟨lkp (cMay.ospecs ), [], none, false, []⟩⟩
noncomputable def cMay.l1  (m : Nat) (x0 : List (El TNum)) (x1 : Int) (x2 : Int) (x3 : Int) (x4 : Int) (x5 : Int) (x6 : Int) (x7 : Int) (x8 : Int) (x9 : Int) (x10 : Int) (x11 : Int) (x12 : Int) (x13 : Int) (x14 : Int) (x15 : Int) (x16 : Int) (x17 : Int) (x18 : Bool) (x19 : Int) (x20 : Int) (x21 : Int) (x22 : Int) (x23 : Int) (x24 : ByteArray) (x25 : Bool) : R := run (cMay.cfg ) 54 cMay.rs m ((todoR 3 cMay.body []).getD []) ⟨ofList (.c .junk) [(1, (.c (.ref 1 0))), (13, (.c (.sl TNum x0))), (14, (.c (.v (.int .i64 x1)))), (15, (.c (.v (.int .i64 x2))))], ofList none [(1, some (.ice 23 [(.v (.int .i64 x3)), (.v (.int .i64 x4)), (.v (.int .i64 x5)), (.v (.int .i64 x6)), (.v (.int .i64 x7)), (.v (.int .i64 x8)), (.v (.int .i64 x9)), (.v (.int .i64 x10)), (.v (.int .i64 x11)), (.v (.int .i64 x12)), (.v (.int .i64 x13)), (.v (.int .i64 x14)), (.v (.int .i64 x15)), (.v (.int .i64 x16)), (.v (.int .i64 x17)), (.v (.bool x18)), (.v (.int .i64 x19)), (.v (.int .i64 x20)), (.v (.int .i64 x21)), (.v (.int .i64 x22)), (.v (.int .i64 x23)), (.v (.string x24)), (.v (.bool x25))]))], ofList false [(1, true)]⟩
noncomputable def cMay.go  (m : Nat) (x0 : (El TConfig)) : R := run (cMay.cfg ) 54 cMay.rs m [.code cMay.body] (enter (ivA cMay.ps (x0, ())))
theorem cMay.start  (m : Nat) (x0 : (El TConfig)) : cMay.go  (m + 1) x0 =
  test (numbers.pre (x0, Unit.unit)) (
   cMay.l1  m ((firstL x0) ++ (secondL x0)) ((List.length ((firstL x0) ++ (secondL x0))) : Int) (0 : Int) x0.1 x0.2.1 x0.2.2.1 x0.2.2.2.1 x0.2.2.2.2.1 x0.2.2.2.2.2.1 x0.2.2.2.2.2.2.1 x0.2.2.2.2.2.2.2.1 x0.2.2.2.2.2.2.2.2.1 x0.2.2.2.2.2.2.2.2.2.1 x0.2.2.2.2.2.2.2.2.2.2.1 x0.2.2.2.2.2.2.2.2.2.2.2.1 x0.2.2.2.2.2.2.2.2.2.2.2.2.1 x0.2.2.2.2.2.2.2.2.2.2.2.2.2.1 x0.2.2.2.2.2.2.2.2.2.2.2.2.2.2.1 x0.2.2.2.2.2.2.2.2.2.2.2.2.2.2.2.1 x0.2.2.2.2.2.2.2.2.2.2.2.2.2.2.2.2.1 x0.2.2.2.2.2.2.2.2.2.2.2.2.2.2.2.2.2.1 x0.2.2.2.2.2.2.2.2.2.2.2.2.2.2.2.2.2.2.1 x0.2.2.2.2.2.2.2.2.2.2.2.2.2.2.2.2.2.2.2.1 x0.2.2.2.2.2.2.2.2.2.2.2.2.2.2.2.2.2.2.2.2.1 x0.2.2.2.2.2.2.2.2.2.2.2.2.2.2.2.2.2.2.2.2.2.1 x0.2.2.2.2.2.2.2.2.2.2.2.2.2.2.2.2.2.2.2.2.2.2) := by kernel_rfl
theorem cMay.s1  (m : Nat) (x0 : List (El TNum)) (x1 : Int) (x2 : Int) (x3 : Int) (x4 : Int) (x5 : Int) (x6 : Int) (x7 : Int) (x8 : Int) (x9 : Int) (x10 : Int) (x11 : Int) (x12 : Int) (x13 : Int) (x14 : Int) (x15 : Int) (x16 : Int) (x17 : Int) (x18 : Bool) (x19 : Int) (x20 : Int) (x21 : Int) (x22 : Int) (x23 : Int) (x24 : ByteArray) (x25 : Bool) : cMay.l1  (m + 1) x0 x1 x2 x3 x4 x5 x6 x7 x8 x9 x10 x11 x12 x13 x14 x15 x16 x17 x18 x19 x20 x21 x22 x23 x24 x25 =
  cond (decide (x2 < x1)) (
   test (decide ((0 : Int) ≤ x2)) (
    test (decide (x2 < ((List.length x0) : Int))) (
     cond (decide ((((rdEl TNum x0 (Int.toNat x2))).2).1 < ((((rdEl TNum x0 (Int.toNat x2))).2).2).1)) (
      some ((.c (.v (.bool false))), [])) (
      cond (decide ((((rdEl TNum x0 (Int.toNat x2))).2).1 > ((((rdEl TNum x0 (Int.toNat x2))).2).2).2)) (
       some ((.c (.v (.bool false))), [])) (
       cMay.l1  m x0 x1 (IntKind.i64.wrap (x2 + (1 : Int))) x3 x4 x5 x6 x7 x8 x9 x10 x11 x12 x13 x14 x15 x16 x17 x18 x19 x20 x21 x22 x23 x24 x25))))) (
   cond (decide (x23 ≥ (1 : Int))) (
    cond (decide (x23 ≤ (3 : Int))) (
     cond ((ByteArray.toList x24) == (ByteArray.toList (⟨#[]⟩ : ByteArray))) (
      some ((.c (.v (.bool true))), [])) (
      test (nameW.pre (x24, Unit.unit)) (
       some ((.c (.v (.bool (nameB x24)))), [])))) (
     some ((.c (.v (.bool false))), []))) (
    some ((.c (.v (.bool false))), []))) := by kernel_rfl
theorem cMay.run_eq  (m : Nat) (x0 : (El TConfig)) : run (cMay.cfg ) Tryd.f15.ntmps Tryd.f15.results.toList m [.code (bodyOf Tryd.f15)] (enter (ivA cMay.ps (x0, ()))) = cMay.go  m x0 := by kernel_rfl
theorem cMay.ret  (hs : SpecsOK Tryd.prog (cMay.specs )) (ho : OSpecsOK Tryd.prog (cMay.ospecs )) (x0 : (El TConfig)) {m : Nat} {r : IV} (h : cMay.go  m x0 = some (r, [])) : VE.Returns Tryd.prog 15 (ivA cMay.ps (x0, ())) r :=
  returns_of_run (cfg := cMay.cfg ) (cfgOK_of mixed tab_ok hs ho) rfl Tryd.func15 (body_some (by kernel_rfl)) (Nat.le_of_ble_eq_true (by kernel_rfl)) ((cMay.run_eq  m x0).trans h)
abbrev cMay.Law : Prop := ∀ (x0 : (El TConfig)), cMay.pre (x0, ()) = true → VE.Returns Tryd.prog 15 (ivA cMay.ps (x0, ())) (cMay.res (x0, ()))
theorem cMay.mkR (H : ∀ (x0 : (El TConfig)), cMay.pre (x0, ()) = true → VE.Returns Tryd.prog 15 (ivA cMay.ps (x0, ())) (cMay.res (x0, ()))) : SpecOK Tryd.prog 15 cMay.sp :=
  specOf_ret Tryd.func15 (by kernel_rfl) (by kernel_rfl) fun (x : (El TConfig) × Unit) hx => H (x.1) hx
theorem cMay.mk  (hs : SpecsOK Tryd.prog (cMay.specs )) (ho : OSpecsOK Tryd.prog (cMay.ospecs )) (H : ∀ (x0 : (El TConfig)), cMay.pre (x0, ()) = true → ∃ m, cMay.go  m x0 = some (cMay.res (x0, ()), [])) : SpecOK Tryd.prog 15 cMay.sp :=
  cMay.mkR fun x0 hx => (H x0 hx).elim fun _ hm => cMay.ret  hs ho x0 hm

end Go.Proofs.YtlakpbfmcnlnbaaDoor
