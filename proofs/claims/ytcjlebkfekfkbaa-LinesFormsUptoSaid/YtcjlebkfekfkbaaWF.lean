/-
  Steps of the bodies, from checkpoint to checkpoint (printed by wip/VE/mk2.py).
-/
import Derived.Test.YtcjlebkfekfkbaaWA
namespace Go.Proofs.Ytcjlebkfekfkbaa
open Go VE

/-! ### internal/stringslite.Index -/
abbrev index.ps : List AK := [.d false .str, .d false .str]
def index.pre : ElA index.ps → Bool := fun (x : ByteArray × ByteArray × Unit) => fits .str (x.1) && (fits .str (x.2.1) && ((fun _ c => decide (c = hashB)) x.1 x.2.1 && (true)))
def index.res : ElA index.ps → IV := fun (x : ByteArray × ByteArray × Unit) => (fun s _ => vi .i64 (indexB s)) x.1 x.2.1
def index.sp : ISpec := spOf index.ps index.pre index.res
abbrev index.OK : Prop := SpecOK Try.prog 35 index.sp
theorem index.mkR (H : ∀ (x0 : ByteArray) (x1 : ByteArray), index.pre (x0, x1, ()) = true → VE.Returns Try.prog 35 (ivA index.ps (x0, x1, ())) (index.res (x0, x1, ()))) : SpecOK Try.prog 35 index.sp :=
  specOf_ret Try.func35 (by kernel_rfl) (by kernel_rfl) fun (x : ByteArray × ByteArray × Unit) hx => H (x.1) (x.2.1) hx

/-! ### internal/stringslite.Cut -/
abbrev scut.ps : List AK := [.d false .str, .d false .str]
def scut.pre : ElA scut.ps → Bool := fun (x : ByteArray × ByteArray × Unit) => fits .str (x.1) && (fits .str (x.2.1) && ((fun _ c => decide (c = hashB)) x.1 x.2.1 && (true)))
def scut.res : ElA scut.ps → IV := fun (x : ByteArray × ByteArray × Unit) => (fun s _ => .tup [vs (cutA s), vs (cutZ s), vb (cutF s)]) x.1 x.2.1
def scut.sp : ISpec := spOf scut.ps scut.pre scut.res
abbrev scut.OK : Prop := SpecOK Try.prog 32 scut.sp
noncomputable def scut.body : Code := bodyOf Try.f32
noncomputable def scut.rs : List ResultVar := Try.f32.results.toList
def scut.live : List (Nat × Live) := []
noncomputable def scut.specs  : List (Nat × (List Bool × ISpec)) := [(35, ([], index.sp))]
noncomputable def scut.ospecs  : List (Nat × OS) := []
noncomputable def scut.cfg  : Cfg := ⟨lkp tab, lkp (scut.specs ), lkp scut.live, ⟨lkp (scut.ospecs ), [], none, false, []⟩⟩
noncomputable def scut.go  (m : Nat) (x0 : ByteArray) (x1 : ByteArray) : R := run (scut.cfg ) 23 scut.rs m [.code scut.body] (enter (ivA scut.ps (x0, x1, ())))
theorem scut.start  (m : Nat) (x0 : ByteArray) (x1 : ByteArray) : scut.go  (m + 1) x0 x1 =
  test (index.pre (x0, (x1, Unit.unit))) (
   cond (decide ((indexB x0) ≥ (0 : Int))) (
    test (decide ((0 : Int) ≤ (indexB x0))) (
     test (decide ((indexB x0) ≤ ((ByteArray.size x0) : Int))) (
      test (decide ((0 : Int) ≤ (IntKind.i64.wrap ((indexB x0) + ((ByteArray.size x1) : Int))))) (
       test (decide ((IntKind.i64.wrap ((indexB x0) + ((ByteArray.size x1) : Int))) ≤ ((ByteArray.size x0) : Int))) (
        some ((.tup [(.c (.v (.string (ByteArray.extract x0 0 (Int.toNat (indexB x0)))))), (.c (.v (.string (ByteArray.extract x0 (Int.toNat (IntKind.i64.wrap ((indexB x0) + ((ByteArray.size x1) : Int)))) (ByteArray.size x0))))), (.c (.v (.bool true)))]), [])))))) (
    some ((.tup [(.c (.v (.string x0))), (.c (.v (.string (⟨#[]⟩ : ByteArray)))), (.c (.v (.bool false)))]), []))) := by kernel_rfl
theorem scut.run_eq  (m : Nat) (x0 : ByteArray) (x1 : ByteArray) : run (scut.cfg ) Try.f32.ntmps Try.f32.results.toList m [.code (bodyOf Try.f32)] (enter (ivA scut.ps (x0, x1, ()))) = scut.go  m x0 x1 := by kernel_rfl
theorem scut.ret  (hs : SpecsOK Try.prog (scut.specs ))  (x0 : ByteArray) (x1 : ByteArray) {m : Nat} {r : IV} (h : scut.go  m x0 x1 = some (r, [])) : VE.Returns Try.prog 32 (ivA scut.ps (x0, x1, ())) r :=
  returns_of_run (cfg := scut.cfg ) (cfgOK_of mixed tab_ok hs .nil) rfl Try.func32 (body_some (by kernel_rfl)) (Nat.le_of_ble_eq_true (by kernel_rfl)) ((scut.run_eq  m x0 x1).trans h)
abbrev scut.Law : Prop := ∀ (x0 : ByteArray) (x1 : ByteArray), scut.pre (x0, x1, ()) = true → VE.Returns Try.prog 32 (ivA scut.ps (x0, x1, ())) (scut.res (x0, x1, ()))
theorem scut.mkR (H : ∀ (x0 : ByteArray) (x1 : ByteArray), scut.pre (x0, x1, ()) = true → VE.Returns Try.prog 32 (ivA scut.ps (x0, x1, ())) (scut.res (x0, x1, ()))) : SpecOK Try.prog 32 scut.sp :=
  specOf_ret Try.func32 (by kernel_rfl) (by kernel_rfl) fun (x : ByteArray × ByteArray × Unit) hx => H (x.1) (x.2.1) hx
theorem scut.mk  (hs : SpecsOK Try.prog (scut.specs ))  (H : ∀ (x0 : ByteArray) (x1 : ByteArray), scut.pre (x0, x1, ()) = true → ∃ m, scut.go  m x0 x1 = some (scut.res (x0, x1, ()), [])) : SpecOK Try.prog 32 scut.sp :=
  scut.mkR fun x0 x1 hx => (H x0 x1 hx).elim fun _ hm => scut.ret  hs  x0 x1 hm

/-! ### strings.Cut -/
abbrev cut.ps : List AK := [.d false .str, .d false .str]
def cut.pre : ElA cut.ps → Bool := fun (x : ByteArray × ByteArray × Unit) => fits .str (x.1) && (fits .str (x.2.1) && ((fun _ c => decide (c = hashB)) x.1 x.2.1 && (true)))
def cut.res : ElA cut.ps → IV := fun (x : ByteArray × ByteArray × Unit) => (fun s _ => .tup [vs (cutA s), vs (cutZ s), vb (cutF s)]) x.1 x.2.1
def cut.sp : ISpec := spOf cut.ps cut.pre cut.res
abbrev cut.OK : Prop := SpecOK Try.prog 29 cut.sp
noncomputable def cut.body : Code := bodyOf Try.f29
noncomputable def cut.rs : List ResultVar := Try.f29.results.toList
def cut.live : List (Nat × Live) := []
noncomputable def cut.specs  : List (Nat × (List Bool × ISpec)) := [(32, ([], scut.sp))]
noncomputable def cut.ospecs  : List (Nat × OS) := []
noncomputable def cut.cfg  : Cfg := ⟨lkp tab, lkp (cut.specs ), lkp cut.live, ⟨lkp (cut.ospecs ), [], none, false, []⟩⟩
noncomputable def cut.go  (m : Nat) (x0 : ByteArray) (x1 : ByteArray) : R := run (cut.cfg ) 13 cut.rs m [.code cut.body] (enter (ivA cut.ps (x0, x1, ())))
theorem cut.start  (m : Nat) (x0 : ByteArray) (x1 : ByteArray) : cut.go  (m + 1) x0 x1 =
  test (scut.pre (x0, (x1, Unit.unit))) (
   some ((.tup [(.c (.v (.string (cutA x0)))), (.c (.v (.string (cutZ x0)))), (.c (.v (.bool (cutF x0))))]), [])) := by kernel_rfl
theorem cut.run_eq  (m : Nat) (x0 : ByteArray) (x1 : ByteArray) : run (cut.cfg ) Try.f29.ntmps Try.f29.results.toList m [.code (bodyOf Try.f29)] (enter (ivA cut.ps (x0, x1, ()))) = cut.go  m x0 x1 := by kernel_rfl
theorem cut.ret  (hs : SpecsOK Try.prog (cut.specs ))  (x0 : ByteArray) (x1 : ByteArray) {m : Nat} {r : IV} (h : cut.go  m x0 x1 = some (r, [])) : VE.Returns Try.prog 29 (ivA cut.ps (x0, x1, ())) r :=
  returns_of_run (cfg := cut.cfg ) (cfgOK_of mixed tab_ok hs .nil) rfl Try.func29 (body_some (by kernel_rfl)) (Nat.le_of_ble_eq_true (by kernel_rfl)) ((cut.run_eq  m x0 x1).trans h)
abbrev cut.Law : Prop := ∀ (x0 : ByteArray) (x1 : ByteArray), cut.pre (x0, x1, ()) = true → VE.Returns Try.prog 29 (ivA cut.ps (x0, x1, ())) (cut.res (x0, x1, ()))
theorem cut.mkR (H : ∀ (x0 : ByteArray) (x1 : ByteArray), cut.pre (x0, x1, ()) = true → VE.Returns Try.prog 29 (ivA cut.ps (x0, x1, ())) (cut.res (x0, x1, ()))) : SpecOK Try.prog 29 cut.sp :=
  specOf_ret Try.func29 (by kernel_rfl) (by kernel_rfl) fun (x : ByteArray × ByteArray × Unit) hx => H (x.1) (x.2.1) hx
theorem cut.mk  (hs : SpecsOK Try.prog (cut.specs ))  (H : ∀ (x0 : ByteArray) (x1 : ByteArray), cut.pre (x0, x1, ()) = true → ∃ m, cut.go  m x0 x1 = some (cut.res (x0, x1, ()), [])) : SpecOK Try.prog 29 cut.sp :=
  cut.mkR fun x0 x1 hx => (H x0 x1 hx).elim fun _ hm => cut.ret  hs  x0 x1 hm

/-! ### triage/lines.may -/
abbrev may.ps : List AK := [.d false .str]
def may.pre : ElA may.ps → Bool := fun (x : ByteArray × Unit) => fits .str (x.1) && (true)
def may.res : ElA may.ps → IV := fun (x : ByteArray × Unit) => (fun s => vb (mayB s)) x.1
def may.sp : ISpec := spOf may.ps may.pre may.res
abbrev may.OK : Prop := SpecOK Try.prog 22 may.sp
noncomputable def may.body : Code := bodyOf Try.f22
noncomputable def may.rs : List ResultVar := Try.f22.results.toList
def may.live : List (Nat × Live) := [(2, ⟨[(0, .plain), (5, .plain), (6, .plain)], []⟩)]
noncomputable def may.specs  : List (Nat × (List Bool × ISpec)) := []
noncomputable def may.ospecs  : List (Nat × OS) := []
noncomputable def may.cfg  : Cfg := ⟨lkp tab, lkp (may.specs ), lkp may.live, ⟨lkp (may.ospecs ), [], none, false, []⟩⟩
noncomputable def may.l1  (m : Nat) (x0 : ByteArray) (x1 : Int) (x2 : Int) : R := run (may.cfg ) 23 may.rs m ((todoR 2 may.body []).getD []) ⟨ofList (.c .junk) [(0, (.c (.v (.string x0)))), (5, (.c (.v (.int .i64 x1)))), (6, (.c (.v (.int .i64 x2))))], ofList none [], ofList false []⟩
noncomputable def may.go  (m : Nat) (x0 : ByteArray) : R := run (may.cfg ) 23 may.rs m [.code may.body] (enter (ivA may.ps (x0, ())))
theorem may.start  (m : Nat) (x0 : ByteArray) : may.go  (m + 1) x0 =
  may.l1  m x0 ((ByteArray.size x0) : Int) (0 : Int) := by kernel_rfl
theorem may.s1  (m : Nat) (x0 : ByteArray) (x1 : Int) (x2 : Int) : may.l1  (m + 1) x0 x1 x2 =
  cond (decide (x2 < x1)) (
   test (decide ((0 : Int) ≤ x2)) (
    test (decide (x2 < ((ByteArray.size x0) : Int))) (
     cond (decide ((byteAt x0 x2) < (32 : Int))) (
      some ((.c (.v (.bool false))), [])) (
      test (decide ((0 : Int) ≤ x2)) (
       test (decide (x2 < ((ByteArray.size x0) : Int))) (
        cond (decide ((byteAt x0 x2) > (126 : Int))) (
         some ((.c (.v (.bool false))), [])) (
         may.l1  m x0 x1 (IntKind.i64.wrap (x2 + (1 : Int)))))))))) (
   some ((.c (.v (.bool (decide (((ByteArray.size x0) : Int) ≤ (200 : Int)))))), [])) := by kernel_rfl
theorem may.run_eq  (m : Nat) (x0 : ByteArray) : run (may.cfg ) Try.f22.ntmps Try.f22.results.toList m [.code (bodyOf Try.f22)] (enter (ivA may.ps (x0, ()))) = may.go  m x0 := by kernel_rfl
theorem may.ret  (hs : SpecsOK Try.prog (may.specs ))  (x0 : ByteArray) {m : Nat} {r : IV} (h : may.go  m x0 = some (r, [])) : VE.Returns Try.prog 22 (ivA may.ps (x0, ())) r :=
  returns_of_run (cfg := may.cfg ) (cfgOK_of mixed tab_ok hs .nil) rfl Try.func22 (body_some (by kernel_rfl)) (Nat.le_of_ble_eq_true (by kernel_rfl)) ((may.run_eq  m x0).trans h)
abbrev may.Law : Prop := ∀ (x0 : ByteArray), may.pre (x0, ()) = true → VE.Returns Try.prog 22 (ivA may.ps (x0, ())) (may.res (x0, ()))
theorem may.mkR (H : ∀ (x0 : ByteArray), may.pre (x0, ()) = true → VE.Returns Try.prog 22 (ivA may.ps (x0, ())) (may.res (x0, ()))) : SpecOK Try.prog 22 may.sp :=
  specOf_ret Try.func22 (by kernel_rfl) (by kernel_rfl) fun (x : ByteArray × Unit) hx => H (x.1) hx
theorem may.mk  (hs : SpecsOK Try.prog (may.specs ))  (H : ∀ (x0 : ByteArray), may.pre (x0, ()) = true → ∃ m, may.go  m x0 = some (may.res (x0, ()), [])) : SpecOK Try.prog 22 may.sp :=
  may.mkR fun x0 hx => (H x0 hx).elim fun _ hm => may.ret  hs  x0 hm

/-! ### triage/lines.Number -/
abbrev number.ps : List AK := [.d false .str]
def number.pre : ElA number.ps → Bool := fun (x : ByteArray × Unit) => fits .str (x.1) && (true)
def number.res : ElA number.ps → IV := fun (x : ByteArray × Unit) => (fun s => .tup [vi .i64 (numB s).1, vb (numB s).2]) x.1
def number.sp : ISpec := spOf number.ps number.pre number.res
abbrev number.OK : Prop := SpecOK Try.prog 13 number.sp
noncomputable def number.body : Code := bodyOf Try.f13
noncomputable def number.rs : List ResultVar := Try.f13.results.toList
def number.live : List (Nat × Live) := [(5, ⟨[(0, .plain), (4, .plain), (24, .plain), (25, .plain)], []⟩)]
noncomputable def number.specs  : List (Nat × (List Bool × ISpec)) := []
noncomputable def number.ospecs  : List (Nat × OS) := []
noncomputable def number.cfg  : Cfg := ⟨lkp tab, lkp (number.specs ), lkp number.live, ⟨lkp (number.ospecs ), [], none, false, []⟩⟩
noncomputable def number.l1  (m : Nat) (x0 : ByteArray) (x1 : Int) (x2 : Int) (x3 : Int) : R := run (number.cfg ) 50 number.rs m ((todoR 5 number.body []).getD []) ⟨ofList (.c .junk) [(0, (.c (.v (.string x0)))), (4, (.c (.v (.int .i64 x1)))), (24, (.c (.v (.int .i64 x2)))), (25, (.c (.v (.int .i64 x3))))], ofList none [], ofList false []⟩
noncomputable def number.go  (m : Nat) (x0 : ByteArray) : R := run (number.cfg ) 50 number.rs m [.code number.body] (enter (ivA number.ps (x0, ())))
theorem number.start  (m : Nat) (x0 : ByteArray) : number.go  (m + 1) x0 =
  cond ((ByteArray.toList x0) == (ByteArray.toList (⟨#[]⟩ : ByteArray))) (
   some ((.tup [(.c (.v (.int .i64 (0 : Int)))), (.c (.v (.bool false)))]), [])) (
   cond (decide (((ByteArray.size x0) : Int) > (7 : Int))) (
    some ((.tup [(.c (.v (.int .i64 (0 : Int)))), (.c (.v (.bool false)))]), [])) (
    cond (decide (((ByteArray.size x0) : Int) > (1 : Int))) (
     test (decide ((0 : Int) < ((ByteArray.size x0) : Int))) (
      cond ((byteAt x0 (0 : Int)) == (48 : Int)) (
       some ((.tup [(.c (.v (.int .i64 (0 : Int)))), (.c (.v (.bool false)))]), [])) (
       number.l1  m x0 (0 : Int) ((ByteArray.size x0) : Int) (0 : Int)))) (
     number.l1  m x0 (0 : Int) ((ByteArray.size x0) : Int) (0 : Int)))) := by kernel_rfl
theorem number.s1  (m : Nat) (x0 : ByteArray) (x1 : Int) (x2 : Int) (x3 : Int) : number.l1  (m + 1) x0 x1 x2 x3 =
  cond (decide (x3 < x2)) (
   test (decide ((0 : Int) ≤ x3)) (
    test (decide (x3 < ((ByteArray.size x0) : Int))) (
     cond (decide ((byteAt x0 x3) < (48 : Int))) (
      some ((.tup [(.c (.v (.int .i64 (0 : Int)))), (.c (.v (.bool false)))]), [])) (
      test (decide ((0 : Int) ≤ x3)) (
       test (decide (x3 < ((ByteArray.size x0) : Int))) (
        cond (decide ((byteAt x0 x3) > (57 : Int))) (
         some ((.tup [(.c (.v (.int .i64 (0 : Int)))), (.c (.v (.bool false)))]), [])) (
         test (decide ((0 : Int) ≤ x3)) (
          test (decide (x3 < ((ByteArray.size x0) : Int))) (
           number.l1  m x0 (IntKind.i64.wrap ((IntKind.i64.wrap (x1 * (10 : Int))) + (IntKind.i64.wrap (IntKind.u8.wrap ((byteAt x0 x3) - (48 : Int)))))) x2 (IntKind.i64.wrap (x3 + (1 : Int)))))))))))) (
   cond (decide (x1 > (1000000 : Int))) (
    some ((.tup [(.c (.v (.int .i64 (0 : Int)))), (.c (.v (.bool false)))]), [])) (
    some ((.tup [(.c (.v (.int .i64 x1))), (.c (.v (.bool true)))]), []))) := by kernel_rfl
theorem number.run_eq  (m : Nat) (x0 : ByteArray) : run (number.cfg ) Try.f13.ntmps Try.f13.results.toList m [.code (bodyOf Try.f13)] (enter (ivA number.ps (x0, ()))) = number.go  m x0 := by kernel_rfl
theorem number.ret  (hs : SpecsOK Try.prog (number.specs ))  (x0 : ByteArray) {m : Nat} {r : IV} (h : number.go  m x0 = some (r, [])) : VE.Returns Try.prog 13 (ivA number.ps (x0, ())) r :=
  returns_of_run (cfg := number.cfg ) (cfgOK_of mixed tab_ok hs .nil) rfl Try.func13 (body_some (by kernel_rfl)) (Nat.le_of_ble_eq_true (by kernel_rfl)) ((number.run_eq  m x0).trans h)
abbrev number.Law : Prop := ∀ (x0 : ByteArray), number.pre (x0, ()) = true → VE.Returns Try.prog 13 (ivA number.ps (x0, ())) (number.res (x0, ()))
theorem number.mkR (H : ∀ (x0 : ByteArray), number.pre (x0, ()) = true → VE.Returns Try.prog 13 (ivA number.ps (x0, ())) (number.res (x0, ()))) : SpecOK Try.prog 13 number.sp :=
  specOf_ret Try.func13 (by kernel_rfl) (by kernel_rfl) fun (x : ByteArray × Unit) hx => H (x.1) hx
theorem number.mk  (hs : SpecsOK Try.prog (number.specs ))  (H : ∀ (x0 : ByteArray), number.pre (x0, ()) = true → ∃ m, number.go  m x0 = some (number.res (x0, ()), [])) : SpecOK Try.prog 13 number.sp :=
  number.mkR fun x0 hx => (H x0 hx).elim fun _ hm => number.ret  hs  x0 hm

/-! ### triage/triageref1.Number -/
abbrev numberR.ps : List AK := [.d false .str]
def numberR.pre : ElA numberR.ps → Bool := fun (x : ByteArray × Unit) => fits .str (x.1) && (true)
def numberR.res : ElA numberR.ps → IV := fun (x : ByteArray × Unit) => (fun s => .tup [vi .i64 (numB s).1, vb (numB s).2]) x.1
def numberR.sp : ISpec := spOf numberR.ps numberR.pre numberR.res
abbrev numberR.OK : Prop := SpecOK Try.prog 18 numberR.sp
noncomputable def numberR.body : Code := bodyOf Try.f18
noncomputable def numberR.rs : List ResultVar := Try.f18.results.toList
def numberR.live : List (Nat × Live) := [(5, ⟨[(0, .plain), (4, .plain), (25, .plain), (26, .plain)], []⟩)]
noncomputable def numberR.specs  : List (Nat × (List Bool × ISpec)) := []
noncomputable def numberR.ospecs  : List (Nat × OS) := []
noncomputable def numberR.cfg  : Cfg := ⟨lkp tab, lkp (numberR.specs ), lkp numberR.live, ⟨lkp (numberR.ospecs ), [], none, false, []⟩⟩
noncomputable def numberR.l1  (m : Nat) (x0 : ByteArray) (x1 : Int) (x2 : Int) (x3 : Int) : R := run (numberR.cfg ) 51 numberR.rs m ((todoR 5 numberR.body []).getD []) ⟨ofList (.c .junk) [(0, (.c (.v (.string x0)))), (4, (.c (.v (.int .i64 x1)))), (25, (.c (.v (.int .i64 x2)))), (26, (.c (.v (.int .i64 x3))))], ofList none [], ofList false []⟩
noncomputable def numberR.go  (m : Nat) (x0 : ByteArray) : R := run (numberR.cfg ) 51 numberR.rs m [.code numberR.body] (enter (ivA numberR.ps (x0, ())))
theorem numberR.start  (m : Nat) (x0 : ByteArray) : numberR.go  (m + 1) x0 =
  cond (decide (((ByteArray.size x0) : Int) < (1 : Int))) (
   some ((.tup [(.c (.v (.int .i64 (0 : Int)))), (.c (.v (.bool false)))]), [])) (
   cond (decide (((ByteArray.size x0) : Int) > (7 : Int))) (
    some ((.tup [(.c (.v (.int .i64 (0 : Int)))), (.c (.v (.bool false)))]), [])) (
    cond (decide (((ByteArray.size x0) : Int) > (1 : Int))) (
     test (decide ((0 : Int) < ((ByteArray.size x0) : Int))) (
      cond ((byteAt x0 (0 : Int)) == (48 : Int)) (
       some ((.tup [(.c (.v (.int .i64 (0 : Int)))), (.c (.v (.bool false)))]), [])) (
       numberR.l1  m x0 (0 : Int) ((ByteArray.size x0) : Int) (0 : Int)))) (
     numberR.l1  m x0 (0 : Int) ((ByteArray.size x0) : Int) (0 : Int)))) := by kernel_rfl
theorem numberR.s1  (m : Nat) (x0 : ByteArray) (x1 : Int) (x2 : Int) (x3 : Int) : numberR.l1  (m + 1) x0 x1 x2 x3 =
  cond (decide (x3 < x2)) (
   test (decide ((0 : Int) ≤ x3)) (
    test (decide (x3 < ((ByteArray.size x0) : Int))) (
     cond (decide ((byteAt x0 x3) < (48 : Int))) (
      some ((.tup [(.c (.v (.int .i64 (0 : Int)))), (.c (.v (.bool false)))]), [])) (
      test (decide ((0 : Int) ≤ x3)) (
       test (decide (x3 < ((ByteArray.size x0) : Int))) (
        cond (decide ((byteAt x0 x3) > (57 : Int))) (
         some ((.tup [(.c (.v (.int .i64 (0 : Int)))), (.c (.v (.bool false)))]), [])) (
         test (decide ((0 : Int) ≤ x3)) (
          test (decide (x3 < ((ByteArray.size x0) : Int))) (
           numberR.l1  m x0 (IntKind.i64.wrap ((IntKind.i64.wrap (x1 * (10 : Int))) + (IntKind.i64.wrap (IntKind.u8.wrap ((byteAt x0 x3) - (48 : Int)))))) x2 (IntKind.i64.wrap (x3 + (1 : Int)))))))))))) (
   cond (decide (x1 > (1000000 : Int))) (
    some ((.tup [(.c (.v (.int .i64 (0 : Int)))), (.c (.v (.bool false)))]), [])) (
    some ((.tup [(.c (.v (.int .i64 x1))), (.c (.v (.bool true)))]), []))) := by kernel_rfl
theorem numberR.run_eq  (m : Nat) (x0 : ByteArray) : run (numberR.cfg ) Try.f18.ntmps Try.f18.results.toList m [.code (bodyOf Try.f18)] (enter (ivA numberR.ps (x0, ()))) = numberR.go  m x0 := by kernel_rfl
theorem numberR.ret  (hs : SpecsOK Try.prog (numberR.specs ))  (x0 : ByteArray) {m : Nat} {r : IV} (h : numberR.go  m x0 = some (r, [])) : VE.Returns Try.prog 18 (ivA numberR.ps (x0, ())) r :=
  returns_of_run (cfg := numberR.cfg ) (cfgOK_of mixed tab_ok hs .nil) rfl Try.func18 (body_some (by kernel_rfl)) (Nat.le_of_ble_eq_true (by kernel_rfl)) ((numberR.run_eq  m x0).trans h)
abbrev numberR.Law : Prop := ∀ (x0 : ByteArray), numberR.pre (x0, ()) = true → VE.Returns Try.prog 18 (ivA numberR.ps (x0, ())) (numberR.res (x0, ()))
theorem numberR.mkR (H : ∀ (x0 : ByteArray), numberR.pre (x0, ()) = true → VE.Returns Try.prog 18 (ivA numberR.ps (x0, ())) (numberR.res (x0, ()))) : SpecOK Try.prog 18 numberR.sp :=
  specOf_ret Try.func18 (by kernel_rfl) (by kernel_rfl) fun (x : ByteArray × Unit) hx => H (x.1) hx
theorem numberR.mk  (hs : SpecsOK Try.prog (numberR.specs ))  (H : ∀ (x0 : ByteArray), numberR.pre (x0, ()) = true → ∃ m, numberR.go  m x0 = some (numberR.res (x0, ()), [])) : SpecOK Try.prog 18 numberR.sp :=
  numberR.mkR fun x0 hx => (H x0 hx).elim fun _ hm => numberR.ret  hs  x0 hm

/-! ### triage/lines.Name -/
abbrev nameW.ps : List AK := [.d false .str]
def nameW.pre : ElA nameW.ps → Bool := fun (x : ByteArray × Unit) => fits .str (x.1) && (true)
def nameW.res : ElA nameW.ps → IV := fun (x : ByteArray × Unit) => (fun s => vb (nameB s)) x.1
def nameW.sp : ISpec := spOf nameW.ps nameW.pre nameW.res
abbrev nameW.OK : Prop := SpecOK Try.prog 14 nameW.sp
noncomputable def nameW.body : Code := bodyOf Try.f14
noncomputable def nameW.rs : List ResultVar := Try.f14.results.toList
def nameW.live : List (Nat × Live) := [(2, ⟨[(0, .plain), (6, .plain), (7, .plain)], []⟩)]
noncomputable def nameW.specs  : List (Nat × (List Bool × ISpec)) := []
noncomputable def nameW.ospecs  : List (Nat × OS) := []
noncomputable def nameW.cfg  : Cfg := ⟨lkp tab, lkp (nameW.specs ), lkp nameW.live, ⟨lkp (nameW.ospecs ), [], none, false, []⟩⟩
noncomputable def nameW.l1  (m : Nat) (x0 : ByteArray) (x1 : Int) (x2 : Int) : R := run (nameW.cfg ) 48 nameW.rs m ((todoR 2 nameW.body []).getD []) ⟨ofList (.c .junk) [(0, (.c (.v (.string x0)))), (6, (.c (.v (.int .i64 x1)))), (7, (.c (.v (.int .i64 x2))))], ofList none [], ofList false []⟩
noncomputable def nameW.go  (m : Nat) (x0 : ByteArray) : R := run (nameW.cfg ) 48 nameW.rs m [.code nameW.body] (enter (ivA nameW.ps (x0, ())))
theorem nameW.start  (m : Nat) (x0 : ByteArray) : nameW.go  (m + 1) x0 =
  nameW.l1  m x0 ((ByteArray.size x0) : Int) (0 : Int) := by kernel_rfl
theorem nameW.s1  (m : Nat) (x0 : ByteArray) (x1 : Int) (x2 : Int) : nameW.l1  (m + 1) x0 x1 x2 =
  cond (decide (x2 < x1)) (
   test (decide ((0 : Int) ≤ x2)) (
    test (decide (x2 < ((ByteArray.size x0) : Int))) (
     cond (decide ((byteAt x0 x2) < (97 : Int))) (
      cond (decide ((byteAt x0 x2) < (48 : Int))) (
       cond (bne (byteAt x0 x2) (45 : Int)) (
        cond (bne (byteAt x0 x2) (46 : Int)) (
         some ((.c (.v (.bool false))), [])) (
         nameW.l1  m x0 x1 (IntKind.i64.wrap (x2 + (1 : Int))))) (
        nameW.l1  m x0 x1 (IntKind.i64.wrap (x2 + (1 : Int))))) (
       cond (decide ((byteAt x0 x2) > (57 : Int))) (
        cond (bne (byteAt x0 x2) (45 : Int)) (
         cond (bne (byteAt x0 x2) (46 : Int)) (
          some ((.c (.v (.bool false))), [])) (
          nameW.l1  m x0 x1 (IntKind.i64.wrap (x2 + (1 : Int))))) (
         nameW.l1  m x0 x1 (IntKind.i64.wrap (x2 + (1 : Int))))) (
        nameW.l1  m x0 x1 (IntKind.i64.wrap (x2 + (1 : Int)))))) (
      cond (decide ((byteAt x0 x2) > (122 : Int))) (
       cond (decide ((byteAt x0 x2) < (48 : Int))) (
        cond (bne (byteAt x0 x2) (45 : Int)) (
         cond (bne (byteAt x0 x2) (46 : Int)) (
          some ((.c (.v (.bool false))), [])) (
          nameW.l1  m x0 x1 (IntKind.i64.wrap (x2 + (1 : Int))))) (
         nameW.l1  m x0 x1 (IntKind.i64.wrap (x2 + (1 : Int))))) (
        cond (decide ((byteAt x0 x2) > (57 : Int))) (
         cond (bne (byteAt x0 x2) (45 : Int)) (
          cond (bne (byteAt x0 x2) (46 : Int)) (
           some ((.c (.v (.bool false))), [])) (
           nameW.l1  m x0 x1 (IntKind.i64.wrap (x2 + (1 : Int))))) (
          nameW.l1  m x0 x1 (IntKind.i64.wrap (x2 + (1 : Int))))) (
         nameW.l1  m x0 x1 (IntKind.i64.wrap (x2 + (1 : Int)))))) (
       nameW.l1  m x0 x1 (IntKind.i64.wrap (x2 + (1 : Int)))))))) (
   cond (decide (((ByteArray.size x0) : Int) ≥ (1 : Int))) (
    cond (decide (((ByteArray.size x0) : Int) ≤ (12 : Int))) (
     some ((.c (.v (.bool (Bool.not ((ByteArray.toList x0) == (ByteArray.toList (⟨#[45]⟩ : ByteArray))))))), [])) (
     some ((.c (.v (.bool false))), []))) (
    some ((.c (.v (.bool false))), []))) := by kernel_rfl
theorem nameW.run_eq  (m : Nat) (x0 : ByteArray) : run (nameW.cfg ) Try.f14.ntmps Try.f14.results.toList m [.code (bodyOf Try.f14)] (enter (ivA nameW.ps (x0, ()))) = nameW.go  m x0 := by kernel_rfl
theorem nameW.ret  (hs : SpecsOK Try.prog (nameW.specs ))  (x0 : ByteArray) {m : Nat} {r : IV} (h : nameW.go  m x0 = some (r, [])) : VE.Returns Try.prog 14 (ivA nameW.ps (x0, ())) r :=
  returns_of_run (cfg := nameW.cfg ) (cfgOK_of mixed tab_ok hs .nil) rfl Try.func14 (body_some (by kernel_rfl)) (Nat.le_of_ble_eq_true (by kernel_rfl)) ((nameW.run_eq  m x0).trans h)
abbrev nameW.Law : Prop := ∀ (x0 : ByteArray), nameW.pre (x0, ()) = true → VE.Returns Try.prog 14 (ivA nameW.ps (x0, ())) (nameW.res (x0, ()))
theorem nameW.mkR (H : ∀ (x0 : ByteArray), nameW.pre (x0, ()) = true → VE.Returns Try.prog 14 (ivA nameW.ps (x0, ())) (nameW.res (x0, ()))) : SpecOK Try.prog 14 nameW.sp :=
  specOf_ret Try.func14 (by kernel_rfl) (by kernel_rfl) fun (x : ByteArray × Unit) hx => H (x.1) hx
theorem nameW.mk  (hs : SpecsOK Try.prog (nameW.specs ))  (H : ∀ (x0 : ByteArray), nameW.pre (x0, ()) = true → ∃ m, nameW.go  m x0 = some (nameW.res (x0, ()), [])) : SpecOK Try.prog 14 nameW.sp :=
  nameW.mkR fun x0 hx => (H x0 hx).elim fun _ hm => nameW.ret  hs  x0 hm

/-! ### triage/triageref1.Word -/
abbrev wordR.ps : List AK := [.d false .str]
def wordR.pre : ElA wordR.ps → Bool := fun (x : ByteArray × Unit) => fits .str (x.1) && (true)
def wordR.res : ElA wordR.ps → IV := fun (x : ByteArray × Unit) => (fun s => vb (nameB s)) x.1
def wordR.sp : ISpec := spOf wordR.ps wordR.pre wordR.res
abbrev wordR.OK : Prop := SpecOK Try.prog 15 wordR.sp
noncomputable def wordR.body : Code := bodyOf Try.f15
noncomputable def wordR.rs : List ResultVar := Try.f15.results.toList
def wordR.live : List (Nat × Live) := [(4, ⟨[(0, .plain), (18, .plain), (19, .plain)], []⟩)]
noncomputable def wordR.specs  : List (Nat × (List Bool × ISpec)) := []
noncomputable def wordR.ospecs  : List (Nat × OS) := []
noncomputable def wordR.cfg  : Cfg := ⟨lkp tab, lkp (wordR.specs ), lkp wordR.live, ⟨lkp (wordR.ospecs ), [], none, false, []⟩⟩
noncomputable def wordR.l1  (m : Nat) (x0 : ByteArray) (x1 : Int) (x2 : Int) : R := run (wordR.cfg ) 48 wordR.rs m ((todoR 4 wordR.body []).getD []) ⟨ofList (.c .junk) [(0, (.c (.v (.string x0)))), (18, (.c (.v (.int .i64 x1)))), (19, (.c (.v (.int .i64 x2))))], ofList none [], ofList false []⟩
noncomputable def wordR.go  (m : Nat) (x0 : ByteArray) : R := run (wordR.cfg ) 48 wordR.rs m [.code wordR.body] (enter (ivA wordR.ps (x0, ())))
theorem wordR.start  (m : Nat) (x0 : ByteArray) : wordR.go  (m + 1) x0 =
  cond (decide (((ByteArray.size x0) : Int) < (1 : Int))) (
   some ((.c (.v (.bool false))), [])) (
   cond (decide (((ByteArray.size x0) : Int) > (12 : Int))) (
    some ((.c (.v (.bool false))), [])) (
    cond ((ByteArray.toList x0) == (ByteArray.toList (⟨#[45]⟩ : ByteArray))) (
     some ((.c (.v (.bool false))), [])) (
     wordR.l1  m x0 ((ByteArray.size x0) : Int) (0 : Int)))) := by kernel_rfl
theorem wordR.s1  (m : Nat) (x0 : ByteArray) (x1 : Int) (x2 : Int) : wordR.l1  (m + 1) x0 x1 x2 =
  cond (decide (x2 < x1)) (
   test (decide ((0 : Int) ≤ x2)) (
    test (decide (x2 < ((ByteArray.size x0) : Int))) (
     cond (decide ((byteAt x0 x2) < (97 : Int))) (
      cond (decide ((byteAt x0 x2) < (48 : Int))) (
       cond (bne (byteAt x0 x2) (45 : Int)) (
        cond (bne (byteAt x0 x2) (46 : Int)) (
         some ((.c (.v (.bool false))), [])) (
         wordR.l1  m x0 x1 (IntKind.i64.wrap (x2 + (1 : Int))))) (
        wordR.l1  m x0 x1 (IntKind.i64.wrap (x2 + (1 : Int))))) (
       cond (decide ((byteAt x0 x2) > (57 : Int))) (
        cond (bne (byteAt x0 x2) (45 : Int)) (
         cond (bne (byteAt x0 x2) (46 : Int)) (
          some ((.c (.v (.bool false))), [])) (
          wordR.l1  m x0 x1 (IntKind.i64.wrap (x2 + (1 : Int))))) (
         wordR.l1  m x0 x1 (IntKind.i64.wrap (x2 + (1 : Int))))) (
        wordR.l1  m x0 x1 (IntKind.i64.wrap (x2 + (1 : Int)))))) (
      cond (decide ((byteAt x0 x2) > (122 : Int))) (
       cond (decide ((byteAt x0 x2) < (48 : Int))) (
        cond (bne (byteAt x0 x2) (45 : Int)) (
         cond (bne (byteAt x0 x2) (46 : Int)) (
          some ((.c (.v (.bool false))), [])) (
          wordR.l1  m x0 x1 (IntKind.i64.wrap (x2 + (1 : Int))))) (
         wordR.l1  m x0 x1 (IntKind.i64.wrap (x2 + (1 : Int))))) (
        cond (decide ((byteAt x0 x2) > (57 : Int))) (
         cond (bne (byteAt x0 x2) (45 : Int)) (
          cond (bne (byteAt x0 x2) (46 : Int)) (
           some ((.c (.v (.bool false))), [])) (
           wordR.l1  m x0 x1 (IntKind.i64.wrap (x2 + (1 : Int))))) (
          wordR.l1  m x0 x1 (IntKind.i64.wrap (x2 + (1 : Int))))) (
         wordR.l1  m x0 x1 (IntKind.i64.wrap (x2 + (1 : Int)))))) (
       wordR.l1  m x0 x1 (IntKind.i64.wrap (x2 + (1 : Int)))))))) (
   some ((.c (.v (.bool true))), [])) := by kernel_rfl
theorem wordR.run_eq  (m : Nat) (x0 : ByteArray) : run (wordR.cfg ) Try.f15.ntmps Try.f15.results.toList m [.code (bodyOf Try.f15)] (enter (ivA wordR.ps (x0, ()))) = wordR.go  m x0 := by kernel_rfl
theorem wordR.ret  (hs : SpecsOK Try.prog (wordR.specs ))  (x0 : ByteArray) {m : Nat} {r : IV} (h : wordR.go  m x0 = some (r, [])) : VE.Returns Try.prog 15 (ivA wordR.ps (x0, ())) r :=
  returns_of_run (cfg := wordR.cfg ) (cfgOK_of mixed tab_ok hs .nil) rfl Try.func15 (body_some (by kernel_rfl)) (Nat.le_of_ble_eq_true (by kernel_rfl)) ((wordR.run_eq  m x0).trans h)
abbrev wordR.Law : Prop := ∀ (x0 : ByteArray), wordR.pre (x0, ()) = true → VE.Returns Try.prog 15 (ivA wordR.ps (x0, ())) (wordR.res (x0, ()))
theorem wordR.mkR (H : ∀ (x0 : ByteArray), wordR.pre (x0, ()) = true → VE.Returns Try.prog 15 (ivA wordR.ps (x0, ())) (wordR.res (x0, ()))) : SpecOK Try.prog 15 wordR.sp :=
  specOf_ret Try.func15 (by kernel_rfl) (by kernel_rfl) fun (x : ByteArray × Unit) hx => H (x.1) hx
theorem wordR.mk  (hs : SpecsOK Try.prog (wordR.specs ))  (H : ∀ (x0 : ByteArray), wordR.pre (x0, ()) = true → ∃ m, wordR.go  m x0 = some (wordR.res (x0, ()), [])) : SpecOK Try.prog 15 wordR.sp :=
  wordR.mkR fun x0 hx => (H x0 hx).elim fun _ hm => wordR.ret  hs  x0 hm

/-! ### triage/triageref1.Parts -/
abbrev partsR.ps : List AK := [.d false .str, .d false (.int .u8)]
def partsR.pre : ElA partsR.ps → Bool := fun (x : ByteArray × Int × Unit) => fits .str (x.1) && (fits (.int .u8) (x.2.1) && ((fun s b => decide (ByteArray.size s ≤ 10000)) x.1 x.2.1 && (true)))
def partsR.res : ElA partsR.ps → IV := fun (x : ByteArray × Int × Unit) => (fun s b => .c (.sl .str (partsL s b))) x.1 x.2.1
def partsR.sp : ISpec := spOf partsR.ps partsR.pre partsR.res
abbrev partsR.OK : Prop := SpecOK Try.prog 24 partsR.sp
noncomputable def partsR.body : Code := bodyOf Try.f24
noncomputable def partsR.rs : List ResultVar := Try.f24.results.toList
def partsR.live : List (Nat × Live) := [(4, ⟨[(0, .plain), (1, .plain), (5, .arr 9 .str), (6, .plain), (9, .plain), (10, .plain)], []⟩)]
noncomputable def partsR.specs  : List (Nat × (List Bool × ISpec)) := []
noncomputable def partsR.ospecs  : List (Nat × OS) := []
noncomputable def partsR.cfg  : Cfg := ⟨lkp tab, lkp (partsR.specs ), lkp partsR.live, ⟨lkp (partsR.ospecs ), [], none, false, []⟩⟩
noncomputable def partsR.l1  (m : Nat) (x0 : ByteArray) (x1 : Int) (x2 : Int) (x3 : Int) (x4 : Int) (x5 : List ByteArray) : R := run (partsR.cfg ) 34 partsR.rs m ((todoR 4 partsR.body []).getD []) ⟨ofList (.c .junk) [(0, (.c (.v (.string x0)))), (1, (.c (.v (.int .u8 x1)))), (5, (.c (.sref 766))), (6, (.c (.v (.int .i64 x2)))), (9, (.c (.v (.int .i64 x3)))), (10, (.c (.v (.int .i64 x4))))], ofList none [(766, some (.arr 9 .str x5 false))], ofList false [(766, true)]⟩
noncomputable def partsR.go  (m : Nat) (x0 : ByteArray) (x1 : Int) : R := run (partsR.cfg ) 34 partsR.rs m [.code partsR.body] (enter (ivA partsR.ps (x0, x1, ())))
theorem partsR.start  (m : Nat) (x0 : ByteArray) (x1 : Int) : partsR.go  (m + 1) x0 x1 =
  partsR.l1  m x0 x1 (0 : Int) ((ByteArray.size x0) : Int) (0 : Int) ([] : List ByteArray) := by kernel_rfl
theorem partsR.s1  (m : Nat) (x0 : ByteArray) (x1 : Int) (x2 : Int) (x3 : Int) (x4 : Int) (x5 : List ByteArray) : partsR.l1  (m + 1) x0 x1 x2 x3 x4 x5 =
  cond (decide (x4 < x3)) (
   test (decide ((0 : Int) ≤ x4)) (
    test (decide (x4 < ((ByteArray.size x0) : Int))) (
     cond ((byteAt x0 x4) == x1) (
      test (decide ((0 : Int) ≤ x4)) (
       test (decide (x4 ≤ ((ByteArray.size x0) : Int))) (
        test (decide ((0 : Int) ≤ x2)) (
         test (decide (x2 ≤ ((Int.toNat x4) : Int))) (
          test (decide (((List.length x5) + (List.length ((ByteArray.extract x0 (Int.toNat x2) (Int.toNat x4)) :: ([] : List ByteArray)))) ≤ (lim 16))) (
           partsR.l1  m x0 x1 (IntKind.i64.wrap (x4 + (1 : Int))) x3 (IntKind.i64.wrap (x4 + (1 : Int))) (x5 ++ ((ByteArray.extract x0 (Int.toNat x2) (Int.toNat x4)) :: ([] : List ByteArray))))))))) (
      partsR.l1  m x0 x1 x2 x3 (IntKind.i64.wrap (x4 + (1 : Int))) x5)))) (
   test (decide ((0 : Int) ≤ x2)) (
    test (decide (x2 ≤ ((ByteArray.size x0) : Int))) (
     test (decide (((List.length x5) + (List.length ((ByteArray.extract x0 (Int.toNat x2) (ByteArray.size x0)) :: ([] : List ByteArray)))) ≤ (lim 16))) (
      some ((.c (.sl .str (x5 ++ ((ByteArray.extract x0 (Int.toNat x2) (ByteArray.size x0)) :: ([] : List ByteArray))))), []))))) := by kernel_rfl
theorem partsR.run_eq  (m : Nat) (x0 : ByteArray) (x1 : Int) : run (partsR.cfg ) Try.f24.ntmps Try.f24.results.toList m [.code (bodyOf Try.f24)] (enter (ivA partsR.ps (x0, x1, ()))) = partsR.go  m x0 x1 := by kernel_rfl
theorem partsR.ret  (hs : SpecsOK Try.prog (partsR.specs ))  (x0 : ByteArray) (x1 : Int) {m : Nat} {r : IV} (h : partsR.go  m x0 x1 = some (r, [])) : VE.Returns Try.prog 24 (ivA partsR.ps (x0, x1, ())) r :=
  returns_of_run (cfg := partsR.cfg ) (cfgOK_of mixed tab_ok hs .nil) rfl Try.func24 (body_some (by kernel_rfl)) (Nat.le_of_ble_eq_true (by kernel_rfl)) ((partsR.run_eq  m x0 x1).trans h)
abbrev partsR.Law : Prop := ∀ (x0 : ByteArray) (x1 : Int), partsR.pre (x0, x1, ()) = true → VE.Returns Try.prog 24 (ivA partsR.ps (x0, x1, ())) (partsR.res (x0, x1, ()))
theorem partsR.mkR (H : ∀ (x0 : ByteArray) (x1 : Int), partsR.pre (x0, x1, ()) = true → VE.Returns Try.prog 24 (ivA partsR.ps (x0, x1, ())) (partsR.res (x0, x1, ()))) : SpecOK Try.prog 24 partsR.sp :=
  specOf_ret Try.func24 (by kernel_rfl) (by kernel_rfl) fun (x : ByteArray × Int × Unit) hx => H (x.1) (x.2.1) hx
theorem partsR.mk  (hs : SpecsOK Try.prog (partsR.specs ))  (H : ∀ (x0 : ByteArray) (x1 : Int), partsR.pre (x0, x1, ()) = true → ∃ m, partsR.go  m x0 x1 = some (partsR.res (x0, x1, ()), [])) : SpecOK Try.prog 24 partsR.sp :=
  partsR.mkR fun x0 x1 hx => (H x0 x1 hx).elim fun _ hm => partsR.ret  hs  x0 x1 hm

/-! ### triage/triageref1.SameLines -/
abbrev sameR.ps : List AK := [.d false (.sl TLine), .d false (.sl TLine)]
def sameR.pre : ElA sameR.ps → Bool := fun (x : (List (El TLine)) × (List (El TLine)) × Unit) => fits (.sl TLine) (x.1) && (fits (.sl TLine) (x.2.1) && (true))
def sameR.res : ElA sameR.ps → IV := fun (x : (List (El TLine)) × (List (El TLine)) × Unit) => (fun a b => vb (sameL a b)) x.1 x.2.1
def sameR.sp : ISpec := spOf sameR.ps sameR.pre sameR.res
abbrev sameR.OK : Prop := SpecOK Try.prog 19 sameR.sp
noncomputable def sameR.body : Code := bodyOf Try.f19
noncomputable def sameR.rs : List ResultVar := Try.f19.results.toList
def sameR.live : List (Nat × Live) := [(9, ⟨[(0, .sl TLine), (1, .sl TLine), (5, .plain), (13, .plain), (14, .plain), (48, .plain), (49, .plain)], []⟩), (4, ⟨[(0, .sl TLine), (1, .sl TLine), (13, .plain), (14, .plain)], []⟩)]
noncomputable def sameR.specs  : List (Nat × (List Bool × ISpec)) := []
noncomputable def sameR.ospecs  : List (Nat × OS) := []
noncomputable def sameR.cfg  : Cfg := ⟨lkp tab, lkp (sameR.specs ), lkp sameR.live, ⟨lkp (sameR.ospecs ), [], none, false, []⟩⟩
noncomputable def sameR.l1  (m : Nat) (x0 : List (El TLine)) (x1 : List (El TLine)) (x2 : Int) (x3 : Int) : R := run (sameR.cfg ) 71 sameR.rs m ((todoR 4 sameR.body []).getD []) ⟨ofList (.c .junk) [(0, (.c (.sl TLine x0))), (1, (.c (.sl TLine x1))), (13, (.c (.v (.int .i64 x2)))), (14, (.c (.v (.int .i64 x3))))], ofList none [], ofList false []⟩
noncomputable def sameR.l2  (m : Nat) (x0 : List (El TLine)) (x1 : List (El TLine)) (x2 : Int) (x3 : Int) (x4 : Int) (x5 : Int) (x6 : Int) : R := run (sameR.cfg ) 71 sameR.rs m ((todoR 9 sameR.body []).getD []) ⟨ofList (.c .junk) [(0, (.c (.sl TLine x0))), (1, (.c (.sl TLine x1))), (5, (.c (.v (.int .i64 x2)))), (13, (.c (.v (.int .i64 x3)))), (14, (.c (.v (.int .i64 x4)))), (48, (.c (.v (.int .i64 x5)))), (49, (.c (.v (.int .i64 x6))))], ofList none [], ofList false []⟩
noncomputable def sameR.go  (m : Nat) (x0 : (List (El TLine))) (x1 : (List (El TLine))) : R := run (sameR.cfg ) 71 sameR.rs m [.code sameR.body] (enter (ivA sameR.ps (x0, x1, ())))
theorem sameR.start  (m : Nat) (x0 : (List (El TLine))) (x1 : (List (El TLine))) : sameR.go  (m + 1) x0 x1 =
  cond (bne ((List.length x0) : Int) ((List.length x1) : Int)) (
   some ((.c (.v (.bool false))), [])) (
   sameR.l1  m x0 x1 ((List.length x0) : Int) (0 : Int)) := by kernel_rfl
theorem sameR.s1  (m : Nat) (x0 : List (El TLine)) (x1 : List (El TLine)) (x2 : Int) (x3 : Int) : sameR.l1  (m + 1) x0 x1 x2 x3 =
  cond (decide (x3 < x2)) (
   test (decide ((0 : Int) ≤ x3)) (
    test (decide (x3 < ((List.length x0) : Int))) (
     test (decide ((0 : Int) ≤ x3)) (
      test (decide (x3 < ((List.length x1) : Int))) (
       cond (bne ((rdEl TLine x0 (Int.toNat x3))).1 ((rdEl TLine x1 (Int.toNat x3))).1) (
        some ((.c (.v (.bool false))), [])) (
        test (decide ((0 : Int) ≤ x3)) (
         test (decide (x3 < ((List.length x0) : Int))) (
          test (decide ((0 : Int) ≤ x3)) (
           test (decide (x3 < ((List.length x1) : Int))) (
            cond (bne ((List.length ((rdEl TLine x0 (Int.toNat x3))).2) : Int) ((List.length ((rdEl TLine x1 (Int.toNat x3))).2) : Int)) (
             some ((.c (.v (.bool false))), [])) (
             test (decide ((0 : Int) ≤ x3)) (
              test (decide (x3 < ((List.length x0) : Int))) (
               sameR.l2  m x0 x1 x3 x2 x3 ((List.length ((rdEl TLine x0 (Int.toNat x3))).2) : Int) (0 : Int)))))))))))))) (
   some ((.c (.v (.bool true))), [])) := by kernel_rfl
theorem sameR.s2  (m : Nat) (x0 : List (El TLine)) (x1 : List (El TLine)) (x2 : Int) (x3 : Int) (x4 : Int) (x5 : Int) (x6 : Int) : sameR.l2  (m + 1) x0 x1 x2 x3 x4 x5 x6 =
  cond (decide (x6 < x5)) (
   test (decide ((0 : Int) ≤ x2)) (
    test (decide (x2 < ((List.length x0) : Int))) (
     test (decide ((0 : Int) ≤ x6)) (
      test (decide (x6 < ((List.length ((rdEl TLine x0 (Int.toNat x2))).2) : Int))) (
       test (decide ((0 : Int) ≤ x2)) (
        test (decide (x2 < ((List.length x1) : Int))) (
         test (decide ((0 : Int) ≤ x6)) (
          test (decide (x6 < ((List.length ((rdEl TLine x1 (Int.toNat x2))).2) : Int))) (
           cond (Bool.not ((ByteArray.toList (rdEl .str ((rdEl TLine x0 (Int.toNat x2))).2 (Int.toNat x6))) == (ByteArray.toList (rdEl .str ((rdEl TLine x1 (Int.toNat x2))).2 (Int.toNat x6))))) (
            some ((.c (.v (.bool false))), [])) (
            sameR.l2  m x0 x1 x2 x3 x4 x5 (IntKind.i64.wrap (x6 + (1 : Int))))))))))))) (
   sameR.l1  m x0 x1 x3 (IntKind.i64.wrap (x4 + (1 : Int)))) := by kernel_rfl
theorem sameR.run_eq  (m : Nat) (x0 : (List (El TLine))) (x1 : (List (El TLine))) : run (sameR.cfg ) Try.f19.ntmps Try.f19.results.toList m [.code (bodyOf Try.f19)] (enter (ivA sameR.ps (x0, x1, ()))) = sameR.go  m x0 x1 := by kernel_rfl
theorem sameR.ret  (hs : SpecsOK Try.prog (sameR.specs ))  (x0 : (List (El TLine))) (x1 : (List (El TLine))) {m : Nat} {r : IV} (h : sameR.go  m x0 x1 = some (r, [])) : VE.Returns Try.prog 19 (ivA sameR.ps (x0, x1, ())) r :=
  returns_of_run (cfg := sameR.cfg ) (cfgOK_of mixed tab_ok hs .nil) rfl Try.func19 (body_some (by kernel_rfl)) (Nat.le_of_ble_eq_true (by kernel_rfl)) ((sameR.run_eq  m x0 x1).trans h)
abbrev sameR.Law : Prop := ∀ (x0 : (List (El TLine))) (x1 : (List (El TLine))), sameR.pre (x0, x1, ()) = true → VE.Returns Try.prog 19 (ivA sameR.ps (x0, x1, ())) (sameR.res (x0, x1, ()))
theorem sameR.mkR (H : ∀ (x0 : (List (El TLine))) (x1 : (List (El TLine))), sameR.pre (x0, x1, ()) = true → VE.Returns Try.prog 19 (ivA sameR.ps (x0, x1, ())) (sameR.res (x0, x1, ()))) : SpecOK Try.prog 19 sameR.sp :=
  specOf_ret Try.func19 (by kernel_rfl) (by kernel_rfl) fun (x : (List (El TLine)) × (List (El TLine)) × Unit) hx => H (x.1) (x.2.1) hx
theorem sameR.mk  (hs : SpecsOK Try.prog (sameR.specs ))  (H : ∀ (x0 : (List (El TLine))) (x1 : (List (El TLine))), sameR.pre (x0, x1, ()) = true → ∃ m, sameR.go  m x0 x1 = some (sameR.res (x0, x1, ()), [])) : SpecOK Try.prog 19 sameR.sp :=
  sameR.mkR fun x0 x1 hx => (H x0 x1 hx).elim fun _ hm => sameR.ret  hs  x0 x1 hm

/-! ### triage/triageref1.Join -/
abbrev joinR.ps : List AK := [.d false (.sl TLine)]
def joinR.pre : ElA joinR.ps → Bool := fun (x : (List (El TLine)) × Unit) => fits (.sl TLine) (x.1) && ((fun l => decide (ByteArray.size (joinL l) ≤ 1000000)) x.1 && (true))
def joinR.res : ElA joinR.ps → IV := fun (x : (List (El TLine)) × Unit) => (fun l => .c (.v (.string (joinL l)))) x.1
def joinR.sp : ISpec := spOf joinR.ps joinR.pre joinR.res
abbrev joinR.OK : Prop := SpecOK Try.prog 11 joinR.sp
noncomputable def joinR.body : Code := bodyOf Try.f11
noncomputable def joinR.rs : List ResultVar := Try.f11.results.toList
def joinR.live : List (Nat × Live) := [(6, ⟨[(3, .plain), (8, .sl TLine), (9, .plain), (10, .plain), (15, .sl .str), (16, .plain), (17, .plain)], []⟩), (3, ⟨[(3, .plain), (8, .sl TLine), (9, .plain), (10, .plain)], []⟩)]
noncomputable def joinR.specs  : List (Nat × (List Bool × ISpec)) := []
noncomputable def joinR.ospecs  : List (Nat × OS) := []
noncomputable def joinR.cfg  : Cfg := ⟨lkp tab, lkp (joinR.specs ), lkp joinR.live, ⟨lkp (joinR.ospecs ), [], none, false, []⟩⟩
noncomputable def joinR.l1  (m : Nat) (x0 : ByteArray) (x1 : List (El TLine)) (x2 : Int) (x3 : Int) : R := run (joinR.cfg ) 34 joinR.rs m ((todoR 3 joinR.body []).getD []) ⟨ofList (.c .junk) [(3, (.c (.v (.string x0)))), (8, (.c (.sl TLine x1))), (9, (.c (.v (.int .i64 x2)))), (10, (.c (.v (.int .i64 x3))))], ofList none [], ofList false []⟩
noncomputable def joinR.l2  (m : Nat) (x0 : ByteArray) (x1 : List (El TLine)) (x2 : Int) (x3 : Int) (x4 : List ByteArray) (x5 : Int) (x6 : Int) : R := run (joinR.cfg ) 34 joinR.rs m ((todoR 6 joinR.body []).getD []) ⟨ofList (.c .junk) [(3, (.c (.v (.string x0)))), (8, (.c (.sl TLine x1))), (9, (.c (.v (.int .i64 x2)))), (10, (.c (.v (.int .i64 x3)))), (15, (.c (.sl .str x4))), (16, (.c (.v (.int .i64 x5)))), (17, (.c (.v (.int .i64 x6))))], ofList none [], ofList false []⟩
noncomputable def joinR.go  (m : Nat) (x0 : (List (El TLine))) : R := run (joinR.cfg ) 34 joinR.rs m [.code joinR.body] (enter (ivA joinR.ps (x0, ())))
theorem joinR.start  (m : Nat) (x0 : (List (El TLine))) : joinR.go  (m + 1) x0 =
  joinR.l1  m (⟨#[]⟩ : ByteArray) x0 ((List.length x0) : Int) (0 : Int) := by kernel_rfl
theorem joinR.s1  (m : Nat) (x0 : ByteArray) (x1 : List (El TLine)) (x2 : Int) (x3 : Int) : joinR.l1  (m + 1) x0 x1 x2 x3 =
  cond (decide (x3 < x2)) (
   test (decide ((0 : Int) ≤ x3)) (
    test (decide (x3 < ((List.length x1) : Int))) (
     joinR.l2  m x0 x1 x2 x3 ((rdEl TLine x1 (Int.toNat x3))).2 ((List.length ((rdEl TLine x1 (Int.toNat x3))).2) : Int) (0 : Int)))) (
   some ((.c (.v (.string x0))), [])) := by kernel_rfl
theorem joinR.s2  (m : Nat) (x0 : ByteArray) (x1 : List (El TLine)) (x2 : Int) (x3 : Int) (x4 : List ByteArray) (x5 : Int) (x6 : Int) : joinR.l2  (m + 1) x0 x1 x2 x3 x4 x5 x6 =
  cond (decide (x6 < x5)) (
   test (decide ((0 : Int) ≤ x6)) (
    test (decide (x6 < ((List.length x4) : Int))) (
     cond (decide (x6 > (0 : Int))) (
      test (decide (((ByteArray.size x0) + (ByteArray.size (⟨#[32]⟩ : ByteArray))) ≤ 9223372036854775807)) (
       test (decide (((ByteArray.size (x0 ++ (⟨#[32]⟩ : ByteArray))) + (ByteArray.size (rdEl .str x4 (Int.toNat x6)))) ≤ 9223372036854775807)) (
        joinR.l2  m ((x0 ++ (⟨#[32]⟩ : ByteArray)) ++ (rdEl .str x4 (Int.toNat x6))) x1 x2 x3 x4 x5 (IntKind.i64.wrap (x6 + (1 : Int)))))) (
      test (decide (((ByteArray.size x0) + (ByteArray.size (rdEl .str x4 (Int.toNat x6)))) ≤ 9223372036854775807)) (
       joinR.l2  m (x0 ++ (rdEl .str x4 (Int.toNat x6))) x1 x2 x3 x4 x5 (IntKind.i64.wrap (x6 + (1 : Int)))))))) (
   test (decide (((ByteArray.size x0) + (ByteArray.size (⟨#[10]⟩ : ByteArray))) ≤ 9223372036854775807)) (
    joinR.l1  m (x0 ++ (⟨#[10]⟩ : ByteArray)) x1 x2 (IntKind.i64.wrap (x3 + (1 : Int))))) := by kernel_rfl
theorem joinR.run_eq  (m : Nat) (x0 : (List (El TLine))) : run (joinR.cfg ) Try.f11.ntmps Try.f11.results.toList m [.code (bodyOf Try.f11)] (enter (ivA joinR.ps (x0, ()))) = joinR.go  m x0 := by kernel_rfl
theorem joinR.ret  (hs : SpecsOK Try.prog (joinR.specs ))  (x0 : (List (El TLine))) {m : Nat} {r : IV} (h : joinR.go  m x0 = some (r, [])) : VE.Returns Try.prog 11 (ivA joinR.ps (x0, ())) r :=
  returns_of_run (cfg := joinR.cfg ) (cfgOK_of mixed tab_ok hs .nil) rfl Try.func11 (body_some (by kernel_rfl)) (Nat.le_of_ble_eq_true (by kernel_rfl)) ((joinR.run_eq  m x0).trans h)
abbrev joinR.Law : Prop := ∀ (x0 : (List (El TLine))), joinR.pre (x0, ()) = true → VE.Returns Try.prog 11 (ivA joinR.ps (x0, ())) (joinR.res (x0, ()))
theorem joinR.mkR (H : ∀ (x0 : (List (El TLine))), joinR.pre (x0, ()) = true → VE.Returns Try.prog 11 (ivA joinR.ps (x0, ())) (joinR.res (x0, ()))) : SpecOK Try.prog 11 joinR.sp :=
  specOf_ret Try.func11 (by kernel_rfl) (by kernel_rfl) fun (x : (List (El TLine)) × Unit) hx => H (x.1) hx
theorem joinR.mk  (hs : SpecsOK Try.prog (joinR.specs ))  (H : ∀ (x0 : (List (El TLine))), joinR.pre (x0, ()) = true → ∃ m, joinR.go  m x0 = some (joinR.res (x0, ()), [])) : SpecOK Try.prog 11 joinR.sp :=
  joinR.mkR fun x0 hx => (H x0 hx).elim fun _ hm => joinR.ret  hs  x0 hm

/-! ### triage/triagelaw5.Light -/
abbrev light.ps : List AK := [.d false (.sl TLine)]
def light.pre : ElA light.ps → Bool := fun (x : (List (El TLine)) × Unit) => fits (.sl TLine) (x.1) && ((fun l => decide ((List.length l : Int) + sizesL l ≤ 4611686018427387904)) x.1 && (true))
def light.res : ElA light.ps → IV := fun (x : (List (El TLine)) × Unit) => (fun l => vi .i64 (lightI l)) x.1
def light.sp : ISpec := spOf light.ps light.pre light.res
abbrev light.OK : Prop := SpecOK Try.prog 16 light.sp
noncomputable def light.body : Code := bodyOf Try.f16
noncomputable def light.rs : List ResultVar := Try.f16.results.toList
def light.live : List (Nat × Live) := [(7, ⟨[(3, .plain), (10, .sl TLine), (11, .plain), (12, .plain), (22, .sl .str), (23, .plain), (24, .plain)], []⟩), (3, ⟨[(3, .plain), (10, .sl TLine), (11, .plain), (12, .plain)], []⟩)]
noncomputable def light.specs  : List (Nat × (List Bool × ISpec)) := []
noncomputable def light.ospecs  : List (Nat × OS) := []
noncomputable def light.cfg  : Cfg := ⟨lkp tab, lkp (light.specs ), lkp light.live, ⟨lkp (light.ospecs ), [], none, false, []⟩⟩
noncomputable def light.l1  (m : Nat) (x0 : Int) (x1 : List (El TLine)) (x2 : Int) (x3 : Int) : R := run (light.cfg ) 36 light.rs m ((todoR 3 light.body []).getD []) ⟨ofList (.c .junk) [(3, (.c (.v (.int .i64 x0)))), (10, (.c (.sl TLine x1))), (11, (.c (.v (.int .i64 x2)))), (12, (.c (.v (.int .i64 x3))))], ofList none [], ofList false []⟩
noncomputable def light.l2  (m : Nat) (x0 : Int) (x1 : List (El TLine)) (x2 : Int) (x3 : Int) (x4 : List ByteArray) (x5 : Int) (x6 : Int) : R := run (light.cfg ) 36 light.rs m ((todoR 7 light.body []).getD []) ⟨ofList (.c .junk) [(3, (.c (.v (.int .i64 x0)))), (10, (.c (.sl TLine x1))), (11, (.c (.v (.int .i64 x2)))), (12, (.c (.v (.int .i64 x3)))), (22, (.c (.sl .str x4))), (23, (.c (.v (.int .i64 x5)))), (24, (.c (.v (.int .i64 x6))))], ofList none [], ofList false []⟩
noncomputable def light.go  (m : Nat) (x0 : (List (El TLine))) : R := run (light.cfg ) 36 light.rs m [.code light.body] (enter (ivA light.ps (x0, ())))
theorem light.start  (m : Nat) (x0 : (List (El TLine))) : light.go  (m + 1) x0 =
  light.l1  m ((List.length x0) : Int) x0 ((List.length x0) : Int) (0 : Int) := by kernel_rfl
theorem light.s1  (m : Nat) (x0 : Int) (x1 : List (El TLine)) (x2 : Int) (x3 : Int) : light.l1  (m + 1) x0 x1 x2 x3 =
  cond (decide (x3 < x2)) (
   test (decide ((0 : Int) ≤ x3)) (
    test (decide (x3 < ((List.length x1) : Int))) (
     light.l2  m (IntKind.i64.wrap (x0 + ((List.length ((rdEl TLine x1 (Int.toNat x3))).2) : Int))) x1 x2 x3 ((rdEl TLine x1 (Int.toNat x3))).2 ((List.length ((rdEl TLine x1 (Int.toNat x3))).2) : Int) (0 : Int)))) (
   cond (decide (x0 > (3000 : Int))) (
    some ((.c (.v (.int .i64 (1 : Int)))), [])) (
    some ((.c (.v (.int .i64 (0 : Int)))), []))) := by kernel_rfl
theorem light.s2  (m : Nat) (x0 : Int) (x1 : List (El TLine)) (x2 : Int) (x3 : Int) (x4 : List ByteArray) (x5 : Int) (x6 : Int) : light.l2  (m + 1) x0 x1 x2 x3 x4 x5 x6 =
  cond (decide (x6 < x5)) (
   test (decide ((0 : Int) ≤ x6)) (
    test (decide (x6 < ((List.length x4) : Int))) (
     light.l2  m (IntKind.i64.wrap (x0 + ((ByteArray.size (rdEl .str x4 (Int.toNat x6))) : Int))) x1 x2 x3 x4 x5 (IntKind.i64.wrap (x6 + (1 : Int)))))) (
   light.l1  m x0 x1 x2 (IntKind.i64.wrap (x3 + (1 : Int)))) := by kernel_rfl
theorem light.run_eq  (m : Nat) (x0 : (List (El TLine))) : run (light.cfg ) Try.f16.ntmps Try.f16.results.toList m [.code (bodyOf Try.f16)] (enter (ivA light.ps (x0, ()))) = light.go  m x0 := by kernel_rfl
theorem light.ret  (hs : SpecsOK Try.prog (light.specs ))  (x0 : (List (El TLine))) {m : Nat} {r : IV} (h : light.go  m x0 = some (r, [])) : VE.Returns Try.prog 16 (ivA light.ps (x0, ())) r :=
  returns_of_run (cfg := light.cfg ) (cfgOK_of mixed tab_ok hs .nil) rfl Try.func16 (body_some (by kernel_rfl)) (Nat.le_of_ble_eq_true (by kernel_rfl)) ((light.run_eq  m x0).trans h)
abbrev light.Law : Prop := ∀ (x0 : (List (El TLine))), light.pre (x0, ()) = true → VE.Returns Try.prog 16 (ivA light.ps (x0, ())) (light.res (x0, ()))
theorem light.mkR (H : ∀ (x0 : (List (El TLine))), light.pre (x0, ()) = true → VE.Returns Try.prog 16 (ivA light.ps (x0, ())) (light.res (x0, ()))) : SpecOK Try.prog 16 light.sp :=
  specOf_ret Try.func16 (by kernel_rfl) (by kernel_rfl) fun (x : (List (El TLine)) × Unit) hx => H (x.1) hx
theorem light.mk  (hs : SpecsOK Try.prog (light.specs ))  (H : ∀ (x0 : (List (El TLine))), light.pre (x0, ()) = true → ∃ m, light.go  m x0 = some (light.res (x0, ()), [])) : SpecOK Try.prog 16 light.sp :=
  light.mkR fun x0 hx => (H x0 hx).elim fun _ hm => light.ret  hs  x0 hm

/-! ### triage/triagelaw5.digits -/
abbrev digits.ps : List AK := [.d false (.int .i64)]
def digits.pre : ElA digits.ps → Bool := fun (x : Int × Unit) => fits (.int .i64) (x.1) && ((fun n => decide (0 ≤ n ∧ n ≤ 1000000)) x.1 && (true))
def digits.res : ElA digits.ps → IV := fun (x : Int × Unit) => (fun n => .c (.v (.string (digitsB n)))) x.1
def digits.sp : ISpec := spOf digits.ps digits.pre digits.res
abbrev digits.OK : Prop := SpecOK Try.prog 12 digits.sp
noncomputable def digits.body : Code := bodyOf Try.f12
noncomputable def digits.rs : List ResultVar := Try.f12.results.toList
def digits.live : List (Nat × Live) := [(2, ⟨[(0, .plain), (3, .plain)], []⟩)]
noncomputable def digits.specs  : List (Nat × (List Bool × ISpec)) := []
noncomputable def digits.ospecs  : List (Nat × OS) := []
noncomputable def digits.cfg  : Cfg := ⟨lkp tab, lkp (digits.specs ), lkp digits.live, ⟨lkp (digits.ospecs ), [], none, false, []⟩⟩
noncomputable def digits.l1  (m : Nat) (x0 : Int) (x1 : ByteArray) : R := run (digits.cfg ) 17 digits.rs m ((todoR 2 digits.body []).getD []) ⟨ofList (.c .junk) [(0, (.c (.v (.int .i64 x0)))), (3, (.c (.v (.string x1))))], ofList none [], ofList false []⟩
noncomputable def digits.go  (m : Nat) (x0 : Int) : R := run (digits.cfg ) 17 digits.rs m [.code digits.body] (enter (ivA digits.ps (x0, ())))
theorem digits.start  (m : Nat) (x0 : Int) : digits.go  (m + 1) x0 =
  digits.l1  m x0 (⟨#[]⟩ : ByteArray) := by kernel_rfl
theorem digits.s1  (m : Nat) (x0 : Int) (x1 : ByteArray) : digits.l1  (m + 1) x0 x1 =
  test (decide (((ByteArray.size (bytesStr ((IntKind.u8.wrap (IntKind.i64.wrap ((48 : Int) + (Int.tmod x0 (10 : Int))))) :: ([] : List Int)))) + (ByteArray.size x1)) ≤ 9223372036854775807)) (
   cond ((IntKind.i64.wrap (Int.tdiv x0 (10 : Int))) == (0 : Int)) (
    some ((.c (.v (.string ((bytesStr ((IntKind.u8.wrap (IntKind.i64.wrap ((48 : Int) + (Int.tmod x0 (10 : Int))))) :: ([] : List Int))) ++ x1)))), [])) (
    digits.l1  m (IntKind.i64.wrap (Int.tdiv x0 (10 : Int))) ((bytesStr ((IntKind.u8.wrap (IntKind.i64.wrap ((48 : Int) + (Int.tmod x0 (10 : Int))))) :: ([] : List Int))) ++ x1))) := by kernel_rfl
theorem digits.run_eq  (m : Nat) (x0 : Int) : run (digits.cfg ) Try.f12.ntmps Try.f12.results.toList m [.code (bodyOf Try.f12)] (enter (ivA digits.ps (x0, ()))) = digits.go  m x0 := by kernel_rfl
theorem digits.ret  (hs : SpecsOK Try.prog (digits.specs ))  (x0 : Int) {m : Nat} {r : IV} (h : digits.go  m x0 = some (r, [])) : VE.Returns Try.prog 12 (ivA digits.ps (x0, ())) r :=
  returns_of_run (cfg := digits.cfg ) (cfgOK_of mixed tab_ok hs .nil) rfl Try.func12 (body_some (by kernel_rfl)) (Nat.le_of_ble_eq_true (by kernel_rfl)) ((digits.run_eq  m x0).trans h)
abbrev digits.Law : Prop := ∀ (x0 : Int), digits.pre (x0, ()) = true → VE.Returns Try.prog 12 (ivA digits.ps (x0, ())) (digits.res (x0, ()))
theorem digits.mkR (H : ∀ (x0 : Int), digits.pre (x0, ()) = true → VE.Returns Try.prog 12 (ivA digits.ps (x0, ())) (digits.res (x0, ()))) : SpecOK Try.prog 12 digits.sp :=
  specOf_ret Try.func12 (by kernel_rfl) (by kernel_rfl) fun (x : Int × Unit) hx => H (x.1) hx
theorem digits.mk  (hs : SpecsOK Try.prog (digits.specs ))  (H : ∀ (x0 : Int), digits.pre (x0, ()) = true → ∃ m, digits.go  m x0 = some (digits.res (x0, ()), [])) : SpecOK Try.prog 12 digits.sp :=
  digits.mkR fun x0 hx => (H x0 hx).elim fun _ hm => digits.ret  hs  x0 hm

end Go.Proofs.Ytcjlebkfekfkbaa
