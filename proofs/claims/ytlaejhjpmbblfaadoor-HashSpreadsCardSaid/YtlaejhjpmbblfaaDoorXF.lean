/-
  Steps of the bodies, from checkpoint to checkpoint (printed by wip/VE/mk2.py).
-/
import Derived.Test.YtlaejhjpmbblfaaDoorXA
namespace Go.Proofs.YtlaejhjpmbblfaaDoor
open Go VE

/-! ### strconv.Itoa -/
abbrev itoa.ps : List AK := [.d false (.int .i64)]
def itoa.pre : ElA itoa.ps → Bool := fun (x : Int × Unit) => fits (.int .i64) (x.1) && ((fun n => decide (-9223372036854775808 ≤ n ∧ n ≤ 9223372036854775807)) x.1 && (true))
noncomputable def itoa.res : ElA itoa.ps → IV := fun (x : Int × Unit) => (fun n => vs (itoaB n)) x.1
noncomputable def itoa.sp : ISpec := spOf itoa.ps itoa.pre itoa.res
abbrev itoa.OK : Prop := SpecOK Tryd.prog 15 itoa.sp
theorem itoa.mkR (H : ∀ (x0 : Int), itoa.pre (x0, ()) = true → VE.Returns Tryd.prog 15 (ivA itoa.ps (x0, ())) (itoa.res (x0, ()))) : SpecOK Tryd.prog 15 itoa.sp :=
  specOf_ret Tryd.func15 (by kernel_rfl) (by kernel_rfl) fun (x : Int × Unit) hx => H (x.1) hx

/-! ### triage/hash.Text -/
abbrev text.ps : List AK := [.d false .str]
def text.pre : ElA text.ps → Bool := fun (x : ByteArray × Unit) => fits .str (x.1) && (true)
noncomputable def text.res : ElA text.ps → IV := fun (x : ByteArray × Unit) => (fun s => vi .u64 (textN s)) x.1
noncomputable def text.sp : ISpec := spOf text.ps text.pre text.res
abbrev text.OK : Prop := SpecOK Tryd.prog 8 text.sp
noncomputable def text.body : Code := bodyOf Tryd.f8
noncomputable def text.rs : List ResultVar := Tryd.f8.results.toList
def text.live : List (Nat × Live) := [(3, ⟨[(0, .plain), (3, .plain), (6, .plain), (7, .plain)], []⟩)]
noncomputable def text.specs  : List (Nat × (List Bool × ISpec)) := []
noncomputable def text.ospecs  : List (Nat × OS) := []
noncomputable def text.cfg  : Cfg := ⟨lkp tab, lkp (text.specs ), lkp text.live, ⟨lkp (text.ospecs ), [], none, false, []⟩⟩
noncomputable def text.l1  (m : Nat) (x0 : ByteArray) (x1 : Int) (x2 : Int) (x3 : Int) : R := run (text.cfg ) 27 text.rs m ((todoR 3 text.body []).getD []) ⟨ofList (.c .junk) [(0, (.c (.v (.string x0)))), (3, (.c (.v (.int .u64 x1)))), (6, (.c (.v (.int .i64 x2)))), (7, (.c (.v (.int .i64 x3))))], ofList none [], ofList false []⟩
noncomputable def text.go  (m : Nat) (x0 : ByteArray) : R := run (text.cfg ) 27 text.rs m [.code text.body] (enter (ivA text.ps (x0, ())))
theorem text.start  (m : Nat) (x0 : ByteArray) : text.go  (m + 1) x0 =
  text.l1  m x0 (14695981039346656037 : Int) ((ByteArray.size x0) : Int) (0 : Int) := by kernel_rfl
theorem text.s1  (m : Nat) (x0 : ByteArray) (x1 : Int) (x2 : Int) (x3 : Int) : text.l1  (m + 1) x0 x1 x2 x3 =
  cond (decide (x3 < x2)) (
   test (decide ((0 : Int) ≤ x3)) (
    test (decide (x3 < ((ByteArray.size x0) : Int))) (
     text.l1  m x0 (IntKind.u64.wrap ((IntKind.u64.wrap ((BitVec.toNat ((BitVec.ofInt (Go.IntKind.bits Go.IntKind.u64) x1) ^^^ (BitVec.ofInt (Go.IntKind.bits Go.IntKind.u64) (IntKind.u64.wrap (byteAt x0 x3))))) : Int)) * (1099511628211 : Int))) x2 (IntKind.i64.wrap (x3 + (1 : Int)))))) (
   some ((.c (.v (.int .u64 (IntKind.u64.wrap ((BitVec.toNat ((BitVec.ofInt (Go.IntKind.bits Go.IntKind.u64) (IntKind.u64.wrap ((IntKind.u64.wrap ((BitVec.toNat ((BitVec.ofInt (Go.IntKind.bits Go.IntKind.u64) x1) ^^^ (BitVec.ofInt (Go.IntKind.bits Go.IntKind.u64) (Int.fdiv x1 ((2 : Int) ^ (Min.min (Int.toNat (33 : Int)) (Go.IntKind.bits Go.IntKind.u64))))))) : Int)) * (18397679294719823053 : Int)))) ^^^ (BitVec.ofInt (Go.IntKind.bits Go.IntKind.u64) (Int.fdiv (IntKind.u64.wrap ((IntKind.u64.wrap ((BitVec.toNat ((BitVec.ofInt (Go.IntKind.bits Go.IntKind.u64) x1) ^^^ (BitVec.ofInt (Go.IntKind.bits Go.IntKind.u64) (Int.fdiv x1 ((2 : Int) ^ (Min.min (Int.toNat (33 : Int)) (Go.IntKind.bits Go.IntKind.u64))))))) : Int)) * (18397679294719823053 : Int))) ((2 : Int) ^ (Min.min (Int.toNat (33 : Int)) (Go.IntKind.bits Go.IntKind.u64))))))) : Int))))), [])) := by kernel_rfl
theorem text.run_eq  (m : Nat) (x0 : ByteArray) : run (text.cfg ) Tryd.f8.ntmps Tryd.f8.results.toList m [.code (bodyOf Tryd.f8)] (enter (ivA text.ps (x0, ()))) = text.go  m x0 := by kernel_rfl
theorem text.ret  (hs : SpecsOK Tryd.prog (text.specs ))  (x0 : ByteArray) {m : Nat} {r : IV} (h : text.go  m x0 = some (r, [])) : VE.Returns Tryd.prog 8 (ivA text.ps (x0, ())) r :=
  returns_of_run (cfg := text.cfg ) (cfgOK_of mixed tab_ok hs .nil) rfl Tryd.func8 (body_some (by kernel_rfl)) (Nat.le_of_ble_eq_true (by kernel_rfl)) ((text.run_eq  m x0).trans h)
abbrev text.Law : Prop := ∀ (x0 : ByteArray), text.pre (x0, ()) = true → VE.Returns Tryd.prog 8 (ivA text.ps (x0, ())) (text.res (x0, ()))
theorem text.mkR (H : ∀ (x0 : ByteArray), text.pre (x0, ()) = true → VE.Returns Tryd.prog 8 (ivA text.ps (x0, ())) (text.res (x0, ()))) : SpecOK Tryd.prog 8 text.sp :=
  specOf_ret Tryd.func8 (by kernel_rfl) (by kernel_rfl) fun (x : ByteArray × Unit) hx => H (x.1) hx
theorem text.mk  (hs : SpecsOK Tryd.prog (text.specs ))  (H : ∀ (x0 : ByteArray), text.pre (x0, ()) = true → ∃ m, text.go  m x0 = some (text.res (x0, ()), [])) : SpecOK Tryd.prog 8 text.sp :=
  text.mkR fun x0 hx => (H x0 hx).elim fun _ hm => text.ret  hs  x0 hm

/-! ### triage/triageref1.Text -/
abbrev textR.ps : List AK := [.d false .str]
def textR.pre : ElA textR.ps → Bool := fun (x : ByteArray × Unit) => fits .str (x.1) && (true)
noncomputable def textR.res : ElA textR.ps → IV := fun (x : ByteArray × Unit) => (fun s => vi .u64 (textN s)) x.1
noncomputable def textR.sp : ISpec := spOf textR.ps textR.pre textR.res
abbrev textR.OK : Prop := SpecOK Tryd.prog 9 textR.sp
noncomputable def textR.body : Code := bodyOf Tryd.f9
noncomputable def textR.rs : List ResultVar := Tryd.f9.results.toList
def textR.live : List (Nat × Live) := [(3, ⟨[(0, .plain), (3, .plain), (7, .plain), (8, .plain)], []⟩)]
noncomputable def textR.specs  : List (Nat × (List Bool × ISpec)) := []
noncomputable def textR.ospecs  : List (Nat × OS) := []
noncomputable def textR.cfg  : Cfg := ⟨lkp tab, lkp (textR.specs ), lkp textR.live, ⟨lkp (textR.ospecs ), [], none, false, []⟩⟩
noncomputable def textR.l1  (m : Nat) (x0 : ByteArray) (x1 : Int) (x2 : Int) (x3 : Int) : R := run (textR.cfg ) 28 textR.rs m ((todoR 3 textR.body []).getD []) ⟨ofList (.c .junk) [(0, (.c (.v (.string x0)))), (3, (.c (.v (.int .u64 x1)))), (7, (.c (.v (.int .i64 x2)))), (8, (.c (.v (.int .i64 x3))))], ofList none [], ofList false []⟩
noncomputable def textR.go  (m : Nat) (x0 : ByteArray) : R := run (textR.cfg ) 28 textR.rs m [.code textR.body] (enter (ivA textR.ps (x0, ())))
theorem textR.start  (m : Nat) (x0 : ByteArray) : textR.go  (m + 1) x0 =
  textR.l1  m x0 (14695981039346656037 : Int) ((ByteArray.size x0) : Int) (0 : Int) := by kernel_rfl
theorem textR.s1  (m : Nat) (x0 : ByteArray) (x1 : Int) (x2 : Int) (x3 : Int) : textR.l1  (m + 1) x0 x1 x2 x3 =
  cond (decide (x3 < x2)) (
   test (decide ((0 : Int) ≤ x3)) (
    test (decide (x3 < ((ByteArray.size x0) : Int))) (
     textR.l1  m x0 (IntKind.u64.wrap ((IntKind.u64.wrap ((BitVec.toNat ((BitVec.ofInt (Go.IntKind.bits Go.IntKind.u64) x1) ^^^ (BitVec.ofInt (Go.IntKind.bits Go.IntKind.u64) (IntKind.u64.wrap (byteAt x0 x3))))) : Int)) * (1099511628211 : Int))) x2 (IntKind.i64.wrap (x3 + (1 : Int)))))) (
   some ((.c (.v (.int .u64 (IntKind.u64.wrap ((BitVec.toNat ((BitVec.ofInt (Go.IntKind.bits Go.IntKind.u64) (IntKind.u64.wrap ((IntKind.u64.wrap ((BitVec.toNat ((BitVec.ofInt (Go.IntKind.bits Go.IntKind.u64) x1) ^^^ (BitVec.ofInt (Go.IntKind.bits Go.IntKind.u64) (Int.fdiv x1 ((2 : Int) ^ (Min.min (Int.toNat (33 : Int)) (Go.IntKind.bits Go.IntKind.u64))))))) : Int)) * (18397679294719823053 : Int)))) ^^^ (BitVec.ofInt (Go.IntKind.bits Go.IntKind.u64) (Int.fdiv (IntKind.u64.wrap ((IntKind.u64.wrap ((BitVec.toNat ((BitVec.ofInt (Go.IntKind.bits Go.IntKind.u64) x1) ^^^ (BitVec.ofInt (Go.IntKind.bits Go.IntKind.u64) (Int.fdiv x1 ((2 : Int) ^ (Min.min (Int.toNat (33 : Int)) (Go.IntKind.bits Go.IntKind.u64))))))) : Int)) * (18397679294719823053 : Int))) ((2 : Int) ^ (Min.min (Int.toNat (33 : Int)) (Go.IntKind.bits Go.IntKind.u64))))))) : Int))))), [])) := by kernel_rfl
theorem textR.run_eq  (m : Nat) (x0 : ByteArray) : run (textR.cfg ) Tryd.f9.ntmps Tryd.f9.results.toList m [.code (bodyOf Tryd.f9)] (enter (ivA textR.ps (x0, ()))) = textR.go  m x0 := by kernel_rfl
theorem textR.ret  (hs : SpecsOK Tryd.prog (textR.specs ))  (x0 : ByteArray) {m : Nat} {r : IV} (h : textR.go  m x0 = some (r, [])) : VE.Returns Tryd.prog 9 (ivA textR.ps (x0, ())) r :=
  returns_of_run (cfg := textR.cfg ) (cfgOK_of mixed tab_ok hs .nil) rfl Tryd.func9 (body_some (by kernel_rfl)) (Nat.le_of_ble_eq_true (by kernel_rfl)) ((textR.run_eq  m x0).trans h)
abbrev textR.Law : Prop := ∀ (x0 : ByteArray), textR.pre (x0, ()) = true → VE.Returns Tryd.prog 9 (ivA textR.ps (x0, ())) (textR.res (x0, ()))
theorem textR.mkR (H : ∀ (x0 : ByteArray), textR.pre (x0, ()) = true → VE.Returns Tryd.prog 9 (ivA textR.ps (x0, ())) (textR.res (x0, ()))) : SpecOK Tryd.prog 9 textR.sp :=
  specOf_ret Tryd.func9 (by kernel_rfl) (by kernel_rfl) fun (x : ByteArray × Unit) hx => H (x.1) hx
theorem textR.mk  (hs : SpecsOK Tryd.prog (textR.specs ))  (H : ∀ (x0 : ByteArray), textR.pre (x0, ()) = true → ∃ m, textR.go  m x0 = some (textR.res (x0, ()), [])) : SpecOK Tryd.prog 9 textR.sp :=
  textR.mkR fun x0 hx => (H x0 hx).elim fun _ hm => textR.ret  hs  x0 hm

/-! ### triage/hash.With -/
abbrev with.ps : List AK := [.d false .str, .d false (.int .i64)]
def with.pre : ElA with.ps → Bool := fun (x : ByteArray × Int × Unit) => fits .str (x.1) && (fits (.int .i64) (x.2.1) && ((fun s n => decide (s.size ≤ 100000 ∧ -9223372036854775808 ≤ n ∧ n ≤ 9223372036854775807)) x.1 x.2.1 && (true)))
noncomputable def with.res : ElA with.ps → IV := fun (x : ByteArray × Int × Unit) => (fun s n => vi .u64 (withN s n)) x.1 x.2.1
noncomputable def with.sp : ISpec := spOf with.ps with.pre with.res
abbrev with.OK : Prop := SpecOK Tryd.prog 10 with.sp
noncomputable def with.body : Code := bodyOf Tryd.f10
noncomputable def with.rs : List ResultVar := Tryd.f10.results.toList
def with.live : List (Nat × Live) := []
noncomputable def with.specs  : List (Nat × (List Bool × ISpec)) := [(15, ([], itoa.sp)), (8, ([], text.sp))]
noncomputable def with.ospecs  : List (Nat × OS) := []
noncomputable def with.cfg  : Cfg := ⟨lkp tab, lkp (with.specs ), lkp with.live, ⟨lkp (with.ospecs ), [], none, false, []⟩⟩
noncomputable def with.go  (m : Nat) (x0 : ByteArray) (x1 : Int) : R := run (with.cfg ) 11 with.rs m [.code with.body] (enter (ivA with.ps (x0, x1, ())))
theorem with.start  (m : Nat) (x0 : ByteArray) (x1 : Int) : with.go  (m + 1) x0 x1 =
  test (decide (((ByteArray.size x0) + (ByteArray.size (⟨#[35]⟩ : ByteArray))) ≤ 9223372036854775807)) (
   test (itoa.pre (x1, Unit.unit)) (
    test (decide (((ByteArray.size (x0 ++ (⟨#[35]⟩ : ByteArray))) + (ByteArray.size (itoaB x1))) ≤ 9223372036854775807)) (
     test (text.pre (((x0 ++ (⟨#[35]⟩ : ByteArray)) ++ (itoaB x1)), Unit.unit)) (
      some ((.c (.v (.int .u64 (textN ((x0 ++ (⟨#[35]⟩ : ByteArray)) ++ (itoaB x1)))))), []))))) := by kernel_rfl
theorem with.run_eq  (m : Nat) (x0 : ByteArray) (x1 : Int) : run (with.cfg ) Tryd.f10.ntmps Tryd.f10.results.toList m [.code (bodyOf Tryd.f10)] (enter (ivA with.ps (x0, x1, ()))) = with.go  m x0 x1 := by kernel_rfl
theorem with.ret  (hs : SpecsOK Tryd.prog (with.specs ))  (x0 : ByteArray) (x1 : Int) {m : Nat} {r : IV} (h : with.go  m x0 x1 = some (r, [])) : VE.Returns Tryd.prog 10 (ivA with.ps (x0, x1, ())) r :=
  returns_of_run (cfg := with.cfg ) (cfgOK_of mixed tab_ok hs .nil) rfl Tryd.func10 (body_some (by kernel_rfl)) (Nat.le_of_ble_eq_true (by kernel_rfl)) ((with.run_eq  m x0 x1).trans h)
abbrev with.Law : Prop := ∀ (x0 : ByteArray) (x1 : Int), with.pre (x0, x1, ()) = true → VE.Returns Tryd.prog 10 (ivA with.ps (x0, x1, ())) (with.res (x0, x1, ()))
theorem with.mkR (H : ∀ (x0 : ByteArray) (x1 : Int), with.pre (x0, x1, ()) = true → VE.Returns Tryd.prog 10 (ivA with.ps (x0, x1, ())) (with.res (x0, x1, ()))) : SpecOK Tryd.prog 10 with.sp :=
  specOf_ret Tryd.func10 (by kernel_rfl) (by kernel_rfl) fun (x : ByteArray × Int × Unit) hx => H (x.1) (x.2.1) hx
theorem with.mk  (hs : SpecsOK Tryd.prog (with.specs ))  (H : ∀ (x0 : ByteArray) (x1 : Int), with.pre (x0, x1, ()) = true → ∃ m, with.go  m x0 x1 = some (with.res (x0, x1, ()), [])) : SpecOK Tryd.prog 10 with.sp :=
  with.mkR fun x0 x1 hx => (H x0 x1 hx).elim fun _ hm => with.ret  hs  x0 x1 hm

/-! ### triage/triageref1.With -/
abbrev withR.ps : List AK := [.d false .str, .d false (.int .i64)]
def withR.pre : ElA withR.ps → Bool := fun (x : ByteArray × Int × Unit) => fits .str (x.1) && (fits (.int .i64) (x.2.1) && ((fun s n => decide (s.size ≤ 100000 ∧ -9223372036854775808 ≤ n ∧ n ≤ 9223372036854775807)) x.1 x.2.1 && (true)))
noncomputable def withR.res : ElA withR.ps → IV := fun (x : ByteArray × Int × Unit) => (fun s n => vi .u64 (withN s n)) x.1 x.2.1
noncomputable def withR.sp : ISpec := spOf withR.ps withR.pre withR.res
abbrev withR.OK : Prop := SpecOK Tryd.prog 11 withR.sp
noncomputable def withR.body : Code := bodyOf Tryd.f11
noncomputable def withR.rs : List ResultVar := Tryd.f11.results.toList
def withR.live : List (Nat × Live) := []
noncomputable def withR.specs  : List (Nat × (List Bool × ISpec)) := [(15, ([], itoa.sp)), (9, ([], textR.sp))]
noncomputable def withR.ospecs  : List (Nat × OS) := []
noncomputable def withR.cfg  : Cfg := ⟨lkp tab, lkp (withR.specs ), lkp withR.live, ⟨lkp (withR.ospecs ), [], none, false, []⟩⟩
noncomputable def withR.go  (m : Nat) (x0 : ByteArray) (x1 : Int) : R := run (withR.cfg ) 11 withR.rs m [.code withR.body] (enter (ivA withR.ps (x0, x1, ())))
theorem withR.start  (m : Nat) (x0 : ByteArray) (x1 : Int) : withR.go  (m + 1) x0 x1 =
  test (decide (((ByteArray.size x0) + (ByteArray.size (⟨#[35]⟩ : ByteArray))) ≤ 9223372036854775807)) (
   test (itoa.pre (x1, Unit.unit)) (
    test (decide (((ByteArray.size (x0 ++ (⟨#[35]⟩ : ByteArray))) + (ByteArray.size (itoaB x1))) ≤ 9223372036854775807)) (
     test (textR.pre (((x0 ++ (⟨#[35]⟩ : ByteArray)) ++ (itoaB x1)), Unit.unit)) (
      some ((.c (.v (.int .u64 (textN ((x0 ++ (⟨#[35]⟩ : ByteArray)) ++ (itoaB x1)))))), []))))) := by kernel_rfl
theorem withR.run_eq  (m : Nat) (x0 : ByteArray) (x1 : Int) : run (withR.cfg ) Tryd.f11.ntmps Tryd.f11.results.toList m [.code (bodyOf Tryd.f11)] (enter (ivA withR.ps (x0, x1, ()))) = withR.go  m x0 x1 := by kernel_rfl
theorem withR.ret  (hs : SpecsOK Tryd.prog (withR.specs ))  (x0 : ByteArray) (x1 : Int) {m : Nat} {r : IV} (h : withR.go  m x0 x1 = some (r, [])) : VE.Returns Tryd.prog 11 (ivA withR.ps (x0, x1, ())) r :=
  returns_of_run (cfg := withR.cfg ) (cfgOK_of mixed tab_ok hs .nil) rfl Tryd.func11 (body_some (by kernel_rfl)) (Nat.le_of_ble_eq_true (by kernel_rfl)) ((withR.run_eq  m x0 x1).trans h)
abbrev withR.Law : Prop := ∀ (x0 : ByteArray) (x1 : Int), withR.pre (x0, x1, ()) = true → VE.Returns Tryd.prog 11 (ivA withR.ps (x0, x1, ())) (withR.res (x0, x1, ()))
theorem withR.mkR (H : ∀ (x0 : ByteArray) (x1 : Int), withR.pre (x0, x1, ()) = true → VE.Returns Tryd.prog 11 (ivA withR.ps (x0, x1, ())) (withR.res (x0, x1, ()))) : SpecOK Tryd.prog 11 withR.sp :=
  specOf_ret Tryd.func11 (by kernel_rfl) (by kernel_rfl) fun (x : ByteArray × Int × Unit) hx => H (x.1) (x.2.1) hx
theorem withR.mk  (hs : SpecsOK Tryd.prog (withR.specs ))  (H : ∀ (x0 : ByteArray) (x1 : Int), withR.pre (x0, x1, ()) = true → ∃ m, withR.go  m x0 x1 = some (withR.res (x0, x1, ()), [])) : SpecOK Tryd.prog 11 withR.sp :=
  withR.mkR fun x0 x1 hx => (H x0 x1 hx).elim fun _ hm => withR.ret  hs  x0 x1 hm

/-! ### triage/hash.Below -/
abbrev below.ps : List AK := [.d false (.int .u64), .d false (.int .i64)]
def below.pre : ElA below.ps → Bool := fun (x : Int × Int × Unit) => fits (.int .u64) (x.1) && (fits (.int .i64) (x.2.1) && ((fun h n => decide (0 ≤ h ∧ h < 18446744073709551616 ∧ n ≤ 9223372036854775807)) x.1 x.2.1 && (true)))
noncomputable def below.res : ElA below.ps → IV := fun (x : Int × Int × Unit) => (fun h n => vi .i64 (belowN h n)) x.1 x.2.1
noncomputable def below.sp : ISpec := spOf below.ps below.pre below.res
abbrev below.OK : Prop := SpecOK Tryd.prog 12 below.sp
noncomputable def below.body : Code := bodyOf Tryd.f12
noncomputable def below.rs : List ResultVar := Tryd.f12.results.toList
def below.live : List (Nat × Live) := []
noncomputable def below.specs  : List (Nat × (List Bool × ISpec)) := []
noncomputable def below.ospecs  : List (Nat × OS) := []
noncomputable def below.cfg  : Cfg := ⟨lkp tab, lkp (below.specs ), lkp below.live, ⟨lkp (below.ospecs ), [], none, false, []⟩⟩
noncomputable def below.go  (m : Nat) (x0 : Int) (x1 : Int) : R := run (below.cfg ) 12 below.rs m [.code below.body] (enter (ivA below.ps (x0, x1, ())))
theorem below.start  (m : Nat) (x0 : Int) (x1 : Int) : below.go  (m + 1) x0 x1 =
  cond (decide (x1 < (1 : Int))) (
   some ((.c (.v (.int .i64 (0 : Int)))), [])) (
   test (Bool.not (decide ((IntKind.u64.wrap x1) = (0 : Int)))) (
    some ((.c (.v (.int .i64 (IntKind.i64.wrap (Int.tmod x0 (IntKind.u64.wrap x1)))))), []))) := by kernel_rfl
theorem below.run_eq  (m : Nat) (x0 : Int) (x1 : Int) : run (below.cfg ) Tryd.f12.ntmps Tryd.f12.results.toList m [.code (bodyOf Tryd.f12)] (enter (ivA below.ps (x0, x1, ()))) = below.go  m x0 x1 := by kernel_rfl
theorem below.ret  (hs : SpecsOK Tryd.prog (below.specs ))  (x0 : Int) (x1 : Int) {m : Nat} {r : IV} (h : below.go  m x0 x1 = some (r, [])) : VE.Returns Tryd.prog 12 (ivA below.ps (x0, x1, ())) r :=
  returns_of_run (cfg := below.cfg ) (cfgOK_of mixed tab_ok hs .nil) rfl Tryd.func12 (body_some (by kernel_rfl)) (Nat.le_of_ble_eq_true (by kernel_rfl)) ((below.run_eq  m x0 x1).trans h)
abbrev below.Law : Prop := ∀ (x0 : Int) (x1 : Int), below.pre (x0, x1, ()) = true → VE.Returns Tryd.prog 12 (ivA below.ps (x0, x1, ())) (below.res (x0, x1, ()))
theorem below.mkR (H : ∀ (x0 : Int) (x1 : Int), below.pre (x0, x1, ()) = true → VE.Returns Tryd.prog 12 (ivA below.ps (x0, x1, ())) (below.res (x0, x1, ()))) : SpecOK Tryd.prog 12 below.sp :=
  specOf_ret Tryd.func12 (by kernel_rfl) (by kernel_rfl) fun (x : Int × Int × Unit) hx => H (x.1) (x.2.1) hx
theorem below.mk  (hs : SpecsOK Tryd.prog (below.specs ))  (H : ∀ (x0 : Int) (x1 : Int), below.pre (x0, x1, ()) = true → ∃ m, below.go  m x0 x1 = some (below.res (x0, x1, ()), [])) : SpecOK Tryd.prog 12 below.sp :=
  below.mkR fun x0 x1 hx => (H x0 x1 hx).elim fun _ hm => below.ret  hs  x0 x1 hm

/-! ### triage/triageref1.Below -/
abbrev belowR.ps : List AK := [.d false (.int .u64), .d false (.int .i64)]
def belowR.pre : ElA belowR.ps → Bool := fun (x : Int × Int × Unit) => fits (.int .u64) (x.1) && (fits (.int .i64) (x.2.1) && ((fun h n => decide (0 ≤ h ∧ h < 18446744073709551616 ∧ n ≤ 9223372036854775807)) x.1 x.2.1 && (true)))
noncomputable def belowR.res : ElA belowR.ps → IV := fun (x : Int × Int × Unit) => (fun h n => vi .i64 (belowN h n)) x.1 x.2.1
noncomputable def belowR.sp : ISpec := spOf belowR.ps belowR.pre belowR.res
abbrev belowR.OK : Prop := SpecOK Tryd.prog 13 belowR.sp
noncomputable def belowR.body : Code := bodyOf Tryd.f13
noncomputable def belowR.rs : List ResultVar := Tryd.f13.results.toList
def belowR.live : List (Nat × Live) := []
noncomputable def belowR.specs  : List (Nat × (List Bool × ISpec)) := []
noncomputable def belowR.ospecs  : List (Nat × OS) := []
noncomputable def belowR.cfg  : Cfg := ⟨lkp tab, lkp (belowR.specs ), lkp belowR.live, ⟨lkp (belowR.ospecs ), [], none, false, []⟩⟩
noncomputable def belowR.go  (m : Nat) (x0 : Int) (x1 : Int) : R := run (belowR.cfg ) 12 belowR.rs m [.code belowR.body] (enter (ivA belowR.ps (x0, x1, ())))
theorem belowR.start  (m : Nat) (x0 : Int) (x1 : Int) : belowR.go  (m + 1) x0 x1 =
  cond (decide (x1 < (1 : Int))) (
   some ((.c (.v (.int .i64 (0 : Int)))), [])) (
   test (Bool.not (decide ((IntKind.u64.wrap x1) = (0 : Int)))) (
    some ((.c (.v (.int .i64 (IntKind.i64.wrap (Int.tmod x0 (IntKind.u64.wrap x1)))))), []))) := by kernel_rfl
theorem belowR.run_eq  (m : Nat) (x0 : Int) (x1 : Int) : run (belowR.cfg ) Tryd.f13.ntmps Tryd.f13.results.toList m [.code (bodyOf Tryd.f13)] (enter (ivA belowR.ps (x0, x1, ()))) = belowR.go  m x0 x1 := by kernel_rfl
theorem belowR.ret  (hs : SpecsOK Tryd.prog (belowR.specs ))  (x0 : Int) (x1 : Int) {m : Nat} {r : IV} (h : belowR.go  m x0 x1 = some (r, [])) : VE.Returns Tryd.prog 13 (ivA belowR.ps (x0, x1, ())) r :=
  returns_of_run (cfg := belowR.cfg ) (cfgOK_of mixed tab_ok hs .nil) rfl Tryd.func13 (body_some (by kernel_rfl)) (Nat.le_of_ble_eq_true (by kernel_rfl)) ((belowR.run_eq  m x0 x1).trans h)
abbrev belowR.Law : Prop := ∀ (x0 : Int) (x1 : Int), belowR.pre (x0, x1, ()) = true → VE.Returns Tryd.prog 13 (ivA belowR.ps (x0, x1, ())) (belowR.res (x0, x1, ()))
theorem belowR.mkR (H : ∀ (x0 : Int) (x1 : Int), belowR.pre (x0, x1, ()) = true → VE.Returns Tryd.prog 13 (ivA belowR.ps (x0, x1, ())) (belowR.res (x0, x1, ()))) : SpecOK Tryd.prog 13 belowR.sp :=
  specOf_ret Tryd.func13 (by kernel_rfl) (by kernel_rfl) fun (x : Int × Int × Unit) hx => H (x.1) (x.2.1) hx
theorem belowR.mk  (hs : SpecsOK Tryd.prog (belowR.specs ))  (H : ∀ (x0 : Int) (x1 : Int), belowR.pre (x0, x1, ()) = true → ∃ m, belowR.go  m x0 x1 = some (belowR.res (x0, x1, ()), [])) : SpecOK Tryd.prog 13 belowR.sp :=
  belowR.mkR fun x0 x1 hx => (H x0 x1 hx).elim fun _ hm => belowR.ret  hs  x0 x1 hm

/-! ### triage/triagelaw2.minus -/
abbrev minus.ps : List AK := [.d false (.int .i64)]
def minus.pre : ElA minus.ps → Bool := fun (x : Int × Unit) => fits (.int .i64) (x.1) && ((fun n => decide (-9223372036854775808 ≤ n ∧ n < 0)) x.1 && (true))
noncomputable def minus.res : ElA minus.ps → IV := fun (x : Int × Unit) => (fun n => vs (itoaB n)) x.1
noncomputable def minus.sp : ISpec := spOf minus.ps minus.pre minus.res
abbrev minus.OK : Prop := SpecOK Tryd.prog 16 minus.sp
noncomputable def minus.body : Code := bodyOf Tryd.f16
noncomputable def minus.rs : List ResultVar := Tryd.f16.results.toList
def minus.live : List (Nat × Live) := [(2, ⟨[(0, .plain), (3, .plain)], []⟩)]
noncomputable def minus.specs  : List (Nat × (List Bool × ISpec)) := []
noncomputable def minus.ospecs  : List (Nat × OS) := []
noncomputable def minus.cfg  : Cfg := ⟨lkp tab, lkp (minus.specs ), lkp minus.live, ⟨lkp (minus.ospecs ), [], none, false, []⟩⟩
noncomputable def minus.l1  (m : Nat) (x0 : Int) (x1 : ByteArray) : R := run (minus.cfg ) 18 minus.rs m ((todoR 2 minus.body []).getD []) ⟨ofList (.c .junk) [(0, (.c (.v (.int .i64 x0)))), (3, (.c (.v (.string x1))))], ofList none [], ofList false []⟩
noncomputable def minus.go  (m : Nat) (x0 : Int) : R := run (minus.cfg ) 18 minus.rs m [.code minus.body] (enter (ivA minus.ps (x0, ())))
theorem minus.start  (m : Nat) (x0 : Int) : minus.go  (m + 1) x0 =
  minus.l1  m x0 (⟨#[]⟩ : ByteArray) := by kernel_rfl
theorem minus.s1  (m : Nat) (x0 : Int) (x1 : ByteArray) : minus.l1  (m + 1) x0 x1 =
  test (decide (((ByteArray.size (bytesStr ((IntKind.u8.wrap (IntKind.i64.wrap ((48 : Int) - (Int.tmod x0 (10 : Int))))) :: ([] : List Int)))) + (ByteArray.size x1)) ≤ 9223372036854775807)) (
   cond ((IntKind.i64.wrap (Int.tdiv x0 (10 : Int))) == (0 : Int)) (
    test (decide (((ByteArray.size (⟨#[45]⟩ : ByteArray)) + (ByteArray.size ((bytesStr ((IntKind.u8.wrap (IntKind.i64.wrap ((48 : Int) - (Int.tmod x0 (10 : Int))))) :: ([] : List Int))) ++ x1))) ≤ 9223372036854775807)) (
     some ((.c (.v (.string ((⟨#[45]⟩ : ByteArray) ++ ((bytesStr ((IntKind.u8.wrap (IntKind.i64.wrap ((48 : Int) - (Int.tmod x0 (10 : Int))))) :: ([] : List Int))) ++ x1))))), []))) (
    minus.l1  m (IntKind.i64.wrap (Int.tdiv x0 (10 : Int))) ((bytesStr ((IntKind.u8.wrap (IntKind.i64.wrap ((48 : Int) - (Int.tmod x0 (10 : Int))))) :: ([] : List Int))) ++ x1))) := by kernel_rfl
theorem minus.run_eq  (m : Nat) (x0 : Int) : run (minus.cfg ) Tryd.f16.ntmps Tryd.f16.results.toList m [.code (bodyOf Tryd.f16)] (enter (ivA minus.ps (x0, ()))) = minus.go  m x0 := by kernel_rfl
theorem minus.ret  (hs : SpecsOK Tryd.prog (minus.specs ))  (x0 : Int) {m : Nat} {r : IV} (h : minus.go  m x0 = some (r, [])) : VE.Returns Tryd.prog 16 (ivA minus.ps (x0, ())) r :=
  returns_of_run (cfg := minus.cfg ) (cfgOK_of mixed tab_ok hs .nil) rfl Tryd.func16 (body_some (by kernel_rfl)) (Nat.le_of_ble_eq_true (by kernel_rfl)) ((minus.run_eq  m x0).trans h)
abbrev minus.Law : Prop := ∀ (x0 : Int), minus.pre (x0, ()) = true → VE.Returns Tryd.prog 16 (ivA minus.ps (x0, ())) (minus.res (x0, ()))
theorem minus.mkR (H : ∀ (x0 : Int), minus.pre (x0, ()) = true → VE.Returns Tryd.prog 16 (ivA minus.ps (x0, ())) (minus.res (x0, ()))) : SpecOK Tryd.prog 16 minus.sp :=
  specOf_ret Tryd.func16 (by kernel_rfl) (by kernel_rfl) fun (x : Int × Unit) hx => H (x.1) hx
theorem minus.mk  (hs : SpecsOK Tryd.prog (minus.specs ))  (H : ∀ (x0 : Int), minus.pre (x0, ()) = true → ∃ m, minus.go  m x0 = some (minus.res (x0, ()), [])) : SpecOK Tryd.prog 16 minus.sp :=
  minus.mkR fun x0 hx => (H x0 hx).elim fun _ hm => minus.ret  hs  x0 hm

/-! ### triage/triagelaw2.digits -/
abbrev digits.ps : List AK := [.d false (.int .i64)]
def digits.pre : ElA digits.ps → Bool := fun (x : Int × Unit) => fits (.int .i64) (x.1) && ((fun n => decide (-9223372036854775808 ≤ n ∧ n ≤ 9223372036854775807)) x.1 && (true))
noncomputable def digits.res : ElA digits.ps → IV := fun (x : Int × Unit) => (fun n => vs (itoaB n)) x.1
noncomputable def digits.sp : ISpec := spOf digits.ps digits.pre digits.res
abbrev digits.OK : Prop := SpecOK Tryd.prog 14 digits.sp
noncomputable def digits.body : Code := bodyOf Tryd.f14
noncomputable def digits.rs : List ResultVar := Tryd.f14.results.toList
def digits.live : List (Nat × Live) := [(4, ⟨[(0, .plain), (3, .plain)], []⟩)]
noncomputable def digits.specs  : List (Nat × (List Bool × ISpec)) := [(16, ([], minus.sp))]
noncomputable def digits.ospecs  : List (Nat × OS) := []
noncomputable def digits.cfg  : Cfg := ⟨lkp tab, lkp (digits.specs ), lkp digits.live, ⟨lkp (digits.ospecs ), [], none, false, []⟩⟩
noncomputable def digits.l1  (m : Nat) (x0 : Int) (x1 : ByteArray) : R := run (digits.cfg ) 21 digits.rs m ((todoR 4 digits.body []).getD []) ⟨ofList (.c .junk) [(0, (.c (.v (.int .i64 x0)))), (3, (.c (.v (.string x1))))], ofList none [], ofList false []⟩
noncomputable def digits.go  (m : Nat) (x0 : Int) : R := run (digits.cfg ) 21 digits.rs m [.code digits.body] (enter (ivA digits.ps (x0, ())))
theorem digits.start  (m : Nat) (x0 : Int) : digits.go  (m + 1) x0 =
  cond (decide (x0 < (0 : Int))) (
   test (minus.pre (x0, Unit.unit)) (
    some ((.c (.v (.string (itoaB x0)))), []))) (
   digits.l1  m x0 (⟨#[]⟩ : ByteArray)) := by kernel_rfl
theorem digits.s1  (m : Nat) (x0 : Int) (x1 : ByteArray) : digits.l1  (m + 1) x0 x1 =
  test (decide (((ByteArray.size (bytesStr ((IntKind.u8.wrap (IntKind.i64.wrap ((48 : Int) + (Int.tmod x0 (10 : Int))))) :: ([] : List Int)))) + (ByteArray.size x1)) ≤ 9223372036854775807)) (
   cond ((IntKind.i64.wrap (Int.tdiv x0 (10 : Int))) == (0 : Int)) (
    some ((.c (.v (.string ((bytesStr ((IntKind.u8.wrap (IntKind.i64.wrap ((48 : Int) + (Int.tmod x0 (10 : Int))))) :: ([] : List Int))) ++ x1)))), [])) (
    digits.l1  m (IntKind.i64.wrap (Int.tdiv x0 (10 : Int))) ((bytesStr ((IntKind.u8.wrap (IntKind.i64.wrap ((48 : Int) + (Int.tmod x0 (10 : Int))))) :: ([] : List Int))) ++ x1))) := by kernel_rfl
theorem digits.run_eq  (m : Nat) (x0 : Int) : run (digits.cfg ) Tryd.f14.ntmps Tryd.f14.results.toList m [.code (bodyOf Tryd.f14)] (enter (ivA digits.ps (x0, ()))) = digits.go  m x0 := by kernel_rfl
theorem digits.ret  (hs : SpecsOK Tryd.prog (digits.specs ))  (x0 : Int) {m : Nat} {r : IV} (h : digits.go  m x0 = some (r, [])) : VE.Returns Tryd.prog 14 (ivA digits.ps (x0, ())) r :=
  returns_of_run (cfg := digits.cfg ) (cfgOK_of mixed tab_ok hs .nil) rfl Tryd.func14 (body_some (by kernel_rfl)) (Nat.le_of_ble_eq_true (by kernel_rfl)) ((digits.run_eq  m x0).trans h)
abbrev digits.Law : Prop := ∀ (x0 : Int), digits.pre (x0, ()) = true → VE.Returns Tryd.prog 14 (ivA digits.ps (x0, ())) (digits.res (x0, ()))
theorem digits.mkR (H : ∀ (x0 : Int), digits.pre (x0, ()) = true → VE.Returns Tryd.prog 14 (ivA digits.ps (x0, ())) (digits.res (x0, ()))) : SpecOK Tryd.prog 14 digits.sp :=
  specOf_ret Tryd.func14 (by kernel_rfl) (by kernel_rfl) fun (x : Int × Unit) hx => H (x.1) hx
theorem digits.mk  (hs : SpecsOK Tryd.prog (digits.specs ))  (H : ∀ (x0 : Int), digits.pre (x0, ()) = true → ∃ m, digits.go  m x0 = some (digits.res (x0, ()), [])) : SpecOK Tryd.prog 14 digits.sp :=
  digits.mkR fun x0 hx => (H x0 hx).elim fun _ hm => digits.ret  hs  x0 hm

/-! ### triage/triagelaw2.awake -/
abbrev awake.ps : List AK := []
def awake.pre : ElA awake.ps → Bool := fun (x : Unit) => true
noncomputable def awake.res : ElA awake.ps → IV := fun (x : Unit) => (vb true) 
noncomputable def awake.sp : ISpec := spOf awake.ps awake.pre awake.res
abbrev awake.OK : Prop := SpecOK Tryd.prog 7 awake.sp
noncomputable def awake.body : Code := bodyOf Tryd.f7
noncomputable def awake.rs : List ResultVar := Tryd.f7.results.toList
def awake.live : List (Nat × Live) := []
noncomputable def awake.specs  : List (Nat × (List Bool × ISpec)) := [(8, ([], text.sp)), (10, ([], with.sp)), (12, ([], below.sp))]
noncomputable def awake.ospecs  : List (Nat × OS) := []
noncomputable def awake.cfg  : Cfg := ⟨lkp tab, lkp (awake.specs ), lkp awake.live, ⟨lkp (awake.ospecs ), [], none, false, []⟩⟩
noncomputable def awake.go  (m : Nat)  : R := run (awake.cfg ) 17 awake.rs m [.code awake.body] (enter (ivA awake.ps ()))
theorem awake.start  (m : Nat)  : awake.go  (m + 1)  =
  cond (bne (textN (⟨#[97]⟩ : ByteArray)) (textN (⟨#[98]⟩ : ByteArray))) (
   cond ((withN (⟨#[97]⟩ : ByteArray) (1 : Int)) == (textN (⟨#[97, 35, 49]⟩ : ByteArray))) (
    some ((.c (.v (.bool ((belowN (17 : Int) (0 : Int)) == (0 : Int))))), [])) (
    some ((.c (.v (.bool false))), []))) (
   some ((.c (.v (.bool false))), [])) := by kernel_rfl
theorem awake.run_eq  (m : Nat)  : run (awake.cfg ) Tryd.f7.ntmps Tryd.f7.results.toList m [.code (bodyOf Tryd.f7)] (enter (ivA awake.ps ())) = awake.go  m  := by kernel_rfl
theorem awake.ret  (hs : SpecsOK Tryd.prog (awake.specs ))   {m : Nat} {r : IV} (h : awake.go  m  = some (r, [])) : VE.Returns Tryd.prog 7 (ivA awake.ps ()) r :=
  returns_of_run (cfg := awake.cfg ) (cfgOK_of mixed tab_ok hs .nil) rfl Tryd.func7 (body_some (by kernel_rfl)) (Nat.le_of_ble_eq_true (by kernel_rfl)) ((awake.run_eq  m ).trans h)
abbrev awake.Law : Prop := ∀ (_ : Unit), awake.pre () = true → VE.Returns Tryd.prog 7 (ivA awake.ps ()) (awake.res ())
theorem awake.mkR (H : ∀ (_ : Unit), awake.pre () = true → VE.Returns Tryd.prog 7 (ivA awake.ps ()) (awake.res ())) : SpecOK Tryd.prog 7 awake.sp :=
  specOf_ret Tryd.func7 (by kernel_rfl) (by kernel_rfl) fun (x : Unit) hx => H () hx
theorem awake.mk  (hs : SpecsOK Tryd.prog (awake.specs ))  (H : ∀ (_ : Unit), awake.pre () = true → ∃ m, awake.go  m  = some (awake.res (), [])) : SpecOK Tryd.prog 7 awake.sp :=
  awake.mkR fun _ hx => (H () hx).elim fun _ hm => awake.ret  hs   hm

/-! ### triage/triagelaw2.HashForms -/
abbrev lForms.ps : List AK := [.d false .str, .d false (.int .i64), .d false (.int .u64), .d false (.int .i64)]
def lForms.pre : ElA lForms.ps → Bool := fun (x : ByteArray × Int × Int × Int × Unit) => fits .str (x.1) && (fits (.int .i64) (x.2.1) && (fits (.int .u64) (x.2.2.1) && (fits (.int .i64) (x.2.2.2.1) && ((fun _ n h m => decide (0 ≤ h ∧ h < 18446744073709551616 ∧ -9223372036854775808 ≤ n ∧ n ≤ 9223372036854775807 ∧ m ≤ 9223372036854775807)) x.1 x.2.1 x.2.2.1 x.2.2.2.1 && (true)))))
noncomputable def lForms.res : ElA lForms.ps → IV := fun (x : ByteArray × Int × Int × Int × Unit) => (fun _ _ _ _ => vb true) x.1 x.2.1 x.2.2.1 x.2.2.2.1
noncomputable def lForms.sp : ISpec := spOf lForms.ps lForms.pre lForms.res
abbrev lForms.OK : Prop := SpecOK Tryd.prog 3 lForms.sp
noncomputable def lForms.body : Code := bodyOf Tryd.f3
noncomputable def lForms.rs : List ResultVar := Tryd.f3.results.toList
def lForms.live : List (Nat × Live) := []
noncomputable def lForms.specs  : List (Nat × (List Bool × ISpec)) := [(7, ([], awake.sp)), (8, ([], text.sp)), (9, ([], textR.sp)), (10, ([], with.sp)), (11, ([], withR.sp)), (12, ([], below.sp)), (13, ([], belowR.sp))]
noncomputable def lForms.ospecs  : List (Nat × OS) := []
noncomputable def lForms.cfg  : Cfg := ⟨lkp tab, lkp (lForms.specs ), lkp lForms.live, ⟨lkp (lForms.ospecs ), [], none, false, []⟩⟩
noncomputable def lForms.go  (m : Nat) (x0 : ByteArray) (x1 : Int) (x2 : Int) (x3 : Int) : R := run (lForms.cfg ) 39 lForms.rs m [.code lForms.body] (enter (ivA lForms.ps (x0, x1, x2, x3, ())))
theorem lForms.start  (m : Nat) (x0 : ByteArray) (x1 : Int) (x2 : Int) (x3 : Int) : lForms.go  (m + 1) x0 x1 x2 x3 =
  cond (decide (((ByteArray.size x0) : Int) > (2000 : Int))) (
   some ((.c (.v (.bool true))), [])) (
   test (text.pre (x0, Unit.unit)) (
    test (textR.pre (x0, Unit.unit)) (
     cond ((textN x0) == (textN x0)) (
      test (with.pre (x0, (x1, Unit.unit))) (
       test (withR.pre (x0, (x1, Unit.unit))) (
        cond ((withN x0 x1) == (withN x0 x1)) (
         test (below.pre (x2, (x3, Unit.unit))) (
          test (belowR.pre (x2, (x3, Unit.unit))) (
           cond ((belowN x2 x3) == (belowN x2 x3)) (
            some ((.c (.v (.bool true))), [])) (
            some ((.c (.v (.bool false))), []))))) (
         some ((.c (.v (.bool false))), []))))) (
      some ((.c (.v (.bool false))), []))))) := by kernel_rfl
theorem lForms.run_eq  (m : Nat) (x0 : ByteArray) (x1 : Int) (x2 : Int) (x3 : Int) : run (lForms.cfg ) Tryd.f3.ntmps Tryd.f3.results.toList m [.code (bodyOf Tryd.f3)] (enter (ivA lForms.ps (x0, x1, x2, x3, ()))) = lForms.go  m x0 x1 x2 x3 := by kernel_rfl
theorem lForms.ret  (hs : SpecsOK Tryd.prog (lForms.specs ))  (x0 : ByteArray) (x1 : Int) (x2 : Int) (x3 : Int) {m : Nat} {r : IV} (h : lForms.go  m x0 x1 x2 x3 = some (r, [])) : VE.Returns Tryd.prog 3 (ivA lForms.ps (x0, x1, x2, x3, ())) r :=
  returns_of_run (cfg := lForms.cfg ) (cfgOK_of mixed tab_ok hs .nil) rfl Tryd.func3 (body_some (by kernel_rfl)) (Nat.le_of_ble_eq_true (by kernel_rfl)) ((lForms.run_eq  m x0 x1 x2 x3).trans h)
abbrev lForms.Law : Prop := ∀ (x0 : ByteArray) (x1 : Int) (x2 : Int) (x3 : Int), lForms.pre (x0, x1, x2, x3, ()) = true → VE.Returns Tryd.prog 3 (ivA lForms.ps (x0, x1, x2, x3, ())) (lForms.res (x0, x1, x2, x3, ()))
theorem lForms.mkR (H : ∀ (x0 : ByteArray) (x1 : Int) (x2 : Int) (x3 : Int), lForms.pre (x0, x1, x2, x3, ()) = true → VE.Returns Tryd.prog 3 (ivA lForms.ps (x0, x1, x2, x3, ())) (lForms.res (x0, x1, x2, x3, ()))) : SpecOK Tryd.prog 3 lForms.sp :=
  specOf_ret Tryd.func3 (by kernel_rfl) (by kernel_rfl) fun (x : ByteArray × Int × Int × Int × Unit) hx => H (x.1) (x.2.1) (x.2.2.1) (x.2.2.2.1) hx
theorem lForms.mk  (hs : SpecsOK Tryd.prog (lForms.specs ))  (H : ∀ (x0 : ByteArray) (x1 : Int) (x2 : Int) (x3 : Int), lForms.pre (x0, x1, x2, x3, ()) = true → ∃ m, lForms.go  m x0 x1 x2 x3 = some (lForms.res (x0, x1, x2, x3, ()), [])) : SpecOK Tryd.prog 3 lForms.sp :=
  lForms.mkR fun x0 x1 x2 x3 hx => (H x0 x1 x2 x3 hx).elim fun _ hm => lForms.ret  hs  x0 x1 x2 x3 hm

/-! ### triage/triagelaw2.HashLast -/
abbrev lLast.ps : List AK := [.d false .str, .d false (.int .u8), .d false (.int .u8)]
def lLast.pre : ElA lLast.ps → Bool := fun (x : ByteArray × Int × Int × Unit) => fits .str (x.1) && (fits (.int .u8) (x.2.1) && (fits (.int .u8) (x.2.2.1) && ((fun _ a b => decide (0 ≤ a ∧ a < 256 ∧ 0 ≤ b ∧ b < 256)) x.1 x.2.1 x.2.2.1 && (true))))
noncomputable def lLast.res : ElA lLast.ps → IV := fun (x : ByteArray × Int × Int × Unit) => (fun _ _ _ => vb true) x.1 x.2.1 x.2.2.1
noncomputable def lLast.sp : ISpec := spOf lLast.ps lLast.pre lLast.res
abbrev lLast.OK : Prop := SpecOK Tryd.prog 4 lLast.sp
noncomputable def lLast.body : Code := bodyOf Tryd.f4
noncomputable def lLast.rs : List ResultVar := Tryd.f4.results.toList
def lLast.live : List (Nat × Live) := []
noncomputable def lLast.specs  : List (Nat × (List Bool × ISpec)) := [(7, ([], awake.sp)), (8, ([], text.sp))]
noncomputable def lLast.ospecs  : List (Nat × OS) := []
noncomputable def lLast.cfg  : Cfg := ⟨lkp tab, lkp (lLast.specs ), lkp lLast.live, ⟨lkp (lLast.ospecs ), [], none, false, []⟩⟩
noncomputable def lLast.go  (m : Nat) (x0 : ByteArray) (x1 : Int) (x2 : Int) : R := run (lLast.cfg ) 31 lLast.rs m [.code lLast.body] (enter (ivA lLast.ps (x0, x1, x2, ())))
theorem lLast.start  (m : Nat) (x0 : ByteArray) (x1 : Int) (x2 : Int) : lLast.go  (m + 1) x0 x1 x2 =
  cond (decide (((ByteArray.size x0) : Int) > (500 : Int))) (
   some ((.c (.v (.bool true))), [])) (
   test (decide (((ByteArray.size x0) + (ByteArray.size (bytesStr (x1 :: ([] : List Int))))) ≤ 9223372036854775807)) (
    test (text.pre ((x0 ++ (bytesStr (x1 :: ([] : List Int)))), Unit.unit)) (
     test (decide (((ByteArray.size x0) + (ByteArray.size (bytesStr (x2 :: ([] : List Int))))) ≤ 9223372036854775807)) (
      test (text.pre ((x0 ++ (bytesStr (x2 :: ([] : List Int)))), Unit.unit)) (
       cond (((textN (x0 ++ (bytesStr (x1 :: ([] : List Int))))) == (textN (x0 ++ (bytesStr (x2 :: ([] : List Int)))))) == (x1 == x2)) (
        some ((.c (.v (.bool true))), [])) (
        some ((.c (.v (.bool false))), []))))))) := by kernel_rfl
theorem lLast.run_eq  (m : Nat) (x0 : ByteArray) (x1 : Int) (x2 : Int) : run (lLast.cfg ) Tryd.f4.ntmps Tryd.f4.results.toList m [.code (bodyOf Tryd.f4)] (enter (ivA lLast.ps (x0, x1, x2, ()))) = lLast.go  m x0 x1 x2 := by kernel_rfl
theorem lLast.ret  (hs : SpecsOK Tryd.prog (lLast.specs ))  (x0 : ByteArray) (x1 : Int) (x2 : Int) {m : Nat} {r : IV} (h : lLast.go  m x0 x1 x2 = some (r, [])) : VE.Returns Tryd.prog 4 (ivA lLast.ps (x0, x1, x2, ())) r :=
  returns_of_run (cfg := lLast.cfg ) (cfgOK_of mixed tab_ok hs .nil) rfl Tryd.func4 (body_some (by kernel_rfl)) (Nat.le_of_ble_eq_true (by kernel_rfl)) ((lLast.run_eq  m x0 x1 x2).trans h)
abbrev lLast.Law : Prop := ∀ (x0 : ByteArray) (x1 : Int) (x2 : Int), lLast.pre (x0, x1, x2, ()) = true → VE.Returns Tryd.prog 4 (ivA lLast.ps (x0, x1, x2, ())) (lLast.res (x0, x1, x2, ()))
theorem lLast.mkR (H : ∀ (x0 : ByteArray) (x1 : Int) (x2 : Int), lLast.pre (x0, x1, x2, ()) = true → VE.Returns Tryd.prog 4 (ivA lLast.ps (x0, x1, x2, ())) (lLast.res (x0, x1, x2, ()))) : SpecOK Tryd.prog 4 lLast.sp :=
  specOf_ret Tryd.func4 (by kernel_rfl) (by kernel_rfl) fun (x : ByteArray × Int × Int × Unit) hx => H (x.1) (x.2.1) (x.2.2.1) hx
theorem lLast.mk  (hs : SpecsOK Tryd.prog (lLast.specs ))  (H : ∀ (x0 : ByteArray) (x1 : Int) (x2 : Int), lLast.pre (x0, x1, x2, ()) = true → ∃ m, lLast.go  m x0 x1 x2 = some (lLast.res (x0, x1, x2, ()), [])) : SpecOK Tryd.prog 4 lLast.sp :=
  lLast.mkR fun x0 x1 x2 hx => (H x0 x1 x2 hx).elim fun _ hm => lLast.ret  hs  x0 x1 x2 hm

/-! ### triage/triagelaw2.HashBelow -/
abbrev lBelow.ps : List AK := [.d false (.int .u64), .d false (.int .i64)]
def lBelow.pre : ElA lBelow.ps → Bool := fun (x : Int × Int × Unit) => fits (.int .u64) (x.1) && (fits (.int .i64) (x.2.1) && ((fun h _ => decide (0 ≤ h ∧ h < 18446744073709551616)) x.1 x.2.1 && (true)))
noncomputable def lBelow.res : ElA lBelow.ps → IV := fun (x : Int × Int × Unit) => (fun _ _ => vb true) x.1 x.2.1
noncomputable def lBelow.sp : ISpec := spOf lBelow.ps lBelow.pre lBelow.res
abbrev lBelow.OK : Prop := SpecOK Tryd.prog 5 lBelow.sp
noncomputable def lBelow.body : Code := bodyOf Tryd.f5
noncomputable def lBelow.rs : List ResultVar := Tryd.f5.results.toList
def lBelow.live : List (Nat × Live) := []
noncomputable def lBelow.specs  : List (Nat × (List Bool × ISpec)) := [(7, ([], awake.sp)), (12, ([], below.sp))]
noncomputable def lBelow.ospecs  : List (Nat × OS) := []
noncomputable def lBelow.cfg  : Cfg := ⟨lkp tab, lkp (lBelow.specs ), lkp lBelow.live, ⟨lkp (lBelow.ospecs ), [], none, false, []⟩⟩
noncomputable def lBelow.go  (m : Nat) (x0 : Int) (x1 : Int) : R := run (lBelow.cfg ) 37 lBelow.rs m [.code lBelow.body] (enter (ivA lBelow.ps (x0, x1, ())))
theorem lBelow.start  (m : Nat) (x0 : Int) (x1 : Int) : lBelow.go  (m + 1) x0 x1 =
  test (below.pre (x0, ((IntKind.i64.wrap ((1 : Int) + (IntKind.i64.wrap (Int.tmod (IntKind.u64.wrap x1) (100000 : Int))))), Unit.unit))) (
   cond (decide ((belowN x0 (IntKind.i64.wrap ((1 : Int) + (IntKind.i64.wrap (Int.tmod (IntKind.u64.wrap x1) (100000 : Int)))))) ≥ (0 : Int))) (
    cond (decide ((belowN x0 (IntKind.i64.wrap ((1 : Int) + (IntKind.i64.wrap (Int.tmod (IntKind.u64.wrap x1) (100000 : Int)))))) < (IntKind.i64.wrap ((1 : Int) + (IntKind.i64.wrap (Int.tmod (IntKind.u64.wrap x1) (100000 : Int))))))) (
     test (below.pre (x0, ((1 : Int), Unit.unit))) (
      cond ((belowN x0 (1 : Int)) == (0 : Int)) (
       test (below.pre ((IntKind.u64.wrap (belowN x0 (IntKind.i64.wrap ((1 : Int) + (IntKind.i64.wrap (Int.tmod (IntKind.u64.wrap x1) (100000 : Int))))))), ((IntKind.i64.wrap ((1 : Int) + (IntKind.i64.wrap (Int.tmod (IntKind.u64.wrap x1) (100000 : Int))))), Unit.unit))) (
        cond ((belowN (IntKind.u64.wrap (belowN x0 (IntKind.i64.wrap ((1 : Int) + (IntKind.i64.wrap (Int.tmod (IntKind.u64.wrap x1) (100000 : Int))))))) (IntKind.i64.wrap ((1 : Int) + (IntKind.i64.wrap (Int.tmod (IntKind.u64.wrap x1) (100000 : Int)))))) == (belowN x0 (IntKind.i64.wrap ((1 : Int) + (IntKind.i64.wrap (Int.tmod (IntKind.u64.wrap x1) (100000 : Int))))))) (
         some ((.c (.v (.bool true))), [])) (
         some ((.c (.v (.bool false))), [])))) (
       some ((.c (.v (.bool false))), [])))) (
     some ((.c (.v (.bool false))), []))) (
    some ((.c (.v (.bool false))), []))) := by kernel_rfl
theorem lBelow.run_eq  (m : Nat) (x0 : Int) (x1 : Int) : run (lBelow.cfg ) Tryd.f5.ntmps Tryd.f5.results.toList m [.code (bodyOf Tryd.f5)] (enter (ivA lBelow.ps (x0, x1, ()))) = lBelow.go  m x0 x1 := by kernel_rfl
theorem lBelow.ret  (hs : SpecsOK Tryd.prog (lBelow.specs ))  (x0 : Int) (x1 : Int) {m : Nat} {r : IV} (h : lBelow.go  m x0 x1 = some (r, [])) : VE.Returns Tryd.prog 5 (ivA lBelow.ps (x0, x1, ())) r :=
  returns_of_run (cfg := lBelow.cfg ) (cfgOK_of mixed tab_ok hs .nil) rfl Tryd.func5 (body_some (by kernel_rfl)) (Nat.le_of_ble_eq_true (by kernel_rfl)) ((lBelow.run_eq  m x0 x1).trans h)
abbrev lBelow.Law : Prop := ∀ (x0 : Int) (x1 : Int), lBelow.pre (x0, x1, ()) = true → VE.Returns Tryd.prog 5 (ivA lBelow.ps (x0, x1, ())) (lBelow.res (x0, x1, ()))
theorem lBelow.mkR (H : ∀ (x0 : Int) (x1 : Int), lBelow.pre (x0, x1, ()) = true → VE.Returns Tryd.prog 5 (ivA lBelow.ps (x0, x1, ())) (lBelow.res (x0, x1, ()))) : SpecOK Tryd.prog 5 lBelow.sp :=
  specOf_ret Tryd.func5 (by kernel_rfl) (by kernel_rfl) fun (x : Int × Int × Unit) hx => H (x.1) (x.2.1) hx
theorem lBelow.mk  (hs : SpecsOK Tryd.prog (lBelow.specs ))  (H : ∀ (x0 : Int) (x1 : Int), lBelow.pre (x0, x1, ()) = true → ∃ m, lBelow.go  m x0 x1 = some (lBelow.res (x0, x1, ()), [])) : SpecOK Tryd.prog 5 lBelow.sp :=
  lBelow.mkR fun x0 x1 hx => (H x0 x1 hx).elim fun _ hm => lBelow.ret  hs  x0 x1 hm

/-! ### triage/triagelaw2.HashSpreads -/
abbrev lSpreads.ps : List AK := [.d false .str, .d false (.int .i64), .d false (.int .i64)]
def lSpreads.pre : ElA lSpreads.ps → Bool := fun (x : ByteArray × Int × Int × Unit) => fits .str (x.1) && (fits (.int .i64) (x.2.1) && (fits (.int .i64) (x.2.2.1) && ((fun _ n m => decide (-9223372036854775808 ≤ n ∧ n ≤ 9223372036854775807 ∧ -9223372036854775808 ≤ m ∧ m ≤ 9223372036854775807)) x.1 x.2.1 x.2.2.1 && (true))))
noncomputable def lSpreads.res : ElA lSpreads.ps → IV := fun (x : ByteArray × Int × Int × Unit) => (fun _ _ _ => vb true) x.1 x.2.1 x.2.2.1
noncomputable def lSpreads.sp : ISpec := spOf lSpreads.ps lSpreads.pre lSpreads.res
abbrev lSpreads.OK : Prop := SpecOK Tryd.prog 6 lSpreads.sp
noncomputable def lSpreads.body : Code := bodyOf Tryd.f6
noncomputable def lSpreads.rs : List ResultVar := Tryd.f6.results.toList
def lSpreads.live : List (Nat × Live) := []
noncomputable def lSpreads.specs  : List (Nat × (List Bool × ISpec)) := [(7, ([], awake.sp)), (8, ([], text.sp)), (10, ([], with.sp)), (11, ([], withR.sp)), (14, ([], digits.sp))]
noncomputable def lSpreads.ospecs  : List (Nat × OS) := []
noncomputable def lSpreads.cfg  : Cfg := ⟨lkp tab, lkp (lSpreads.specs ), lkp lSpreads.live, ⟨lkp (lSpreads.ospecs ), [], none, false, []⟩⟩
noncomputable def lSpreads.go  (m : Nat) (x0 : ByteArray) (x1 : Int) (x2 : Int) : R := run (lSpreads.cfg ) 47 lSpreads.rs m [.code lSpreads.body] (enter (ivA lSpreads.ps (x0, x1, x2, ())))
theorem lSpreads.start  (m : Nat) (x0 : ByteArray) (x1 : Int) (x2 : Int) : lSpreads.go  (m + 1) x0 x1 x2 =
  cond (decide (((ByteArray.size x0) : Int) > (500 : Int))) (
   some ((.c (.v (.bool true))), [])) (
   test (with.pre (x0, (x1, Unit.unit))) (
    test (with.pre (x0, (x2, Unit.unit))) (
     cond (bne x1 x2) (
      test (decide (((ByteArray.size x0) + (ByteArray.size (⟨#[35]⟩ : ByteArray))) ≤ 9223372036854775807)) (
       test (digits.pre (x1, Unit.unit)) (
        test (decide (((ByteArray.size (x0 ++ (⟨#[35]⟩ : ByteArray))) + (ByteArray.size (itoaB x1))) ≤ 9223372036854775807)) (
         test (text.pre (((x0 ++ (⟨#[35]⟩ : ByteArray)) ++ (itoaB x1)), Unit.unit)) (
          cond ((withN x0 x1) == (textN ((x0 ++ (⟨#[35]⟩ : ByteArray)) ++ (itoaB x1)))) (
           test (withR.pre (x0, (x2, Unit.unit))) (
            cond ((withN x0 x2) == (withN x0 x2)) (
             some ((.c (.v (.bool true))), [])) (
             some ((.c (.v (.bool false))), [])))) (
           some ((.c (.v (.bool false))), []))))))) (
      cond ((withN x0 x1) == (withN x0 x2)) (
       test (decide (((ByteArray.size x0) + (ByteArray.size (⟨#[35]⟩ : ByteArray))) ≤ 9223372036854775807)) (
        test (digits.pre (x1, Unit.unit)) (
         test (decide (((ByteArray.size (x0 ++ (⟨#[35]⟩ : ByteArray))) + (ByteArray.size (itoaB x1))) ≤ 9223372036854775807)) (
          test (text.pre (((x0 ++ (⟨#[35]⟩ : ByteArray)) ++ (itoaB x1)), Unit.unit)) (
           cond ((withN x0 x1) == (textN ((x0 ++ (⟨#[35]⟩ : ByteArray)) ++ (itoaB x1)))) (
            test (withR.pre (x0, (x2, Unit.unit))) (
             cond ((withN x0 x2) == (withN x0 x2)) (
              some ((.c (.v (.bool true))), [])) (
              some ((.c (.v (.bool false))), [])))) (
            some ((.c (.v (.bool false))), []))))))) (
       some ((.c (.v (.bool false))), [])))))) := by kernel_rfl
theorem lSpreads.run_eq  (m : Nat) (x0 : ByteArray) (x1 : Int) (x2 : Int) : run (lSpreads.cfg ) Tryd.f6.ntmps Tryd.f6.results.toList m [.code (bodyOf Tryd.f6)] (enter (ivA lSpreads.ps (x0, x1, x2, ()))) = lSpreads.go  m x0 x1 x2 := by kernel_rfl
theorem lSpreads.ret  (hs : SpecsOK Tryd.prog (lSpreads.specs ))  (x0 : ByteArray) (x1 : Int) (x2 : Int) {m : Nat} {r : IV} (h : lSpreads.go  m x0 x1 x2 = some (r, [])) : VE.Returns Tryd.prog 6 (ivA lSpreads.ps (x0, x1, x2, ())) r :=
  returns_of_run (cfg := lSpreads.cfg ) (cfgOK_of mixed tab_ok hs .nil) rfl Tryd.func6 (body_some (by kernel_rfl)) (Nat.le_of_ble_eq_true (by kernel_rfl)) ((lSpreads.run_eq  m x0 x1 x2).trans h)
abbrev lSpreads.Law : Prop := ∀ (x0 : ByteArray) (x1 : Int) (x2 : Int), lSpreads.pre (x0, x1, x2, ()) = true → VE.Returns Tryd.prog 6 (ivA lSpreads.ps (x0, x1, x2, ())) (lSpreads.res (x0, x1, x2, ()))
theorem lSpreads.mkR (H : ∀ (x0 : ByteArray) (x1 : Int) (x2 : Int), lSpreads.pre (x0, x1, x2, ()) = true → VE.Returns Tryd.prog 6 (ivA lSpreads.ps (x0, x1, x2, ())) (lSpreads.res (x0, x1, x2, ()))) : SpecOK Tryd.prog 6 lSpreads.sp :=
  specOf_ret Tryd.func6 (by kernel_rfl) (by kernel_rfl) fun (x : ByteArray × Int × Int × Unit) hx => H (x.1) (x.2.1) (x.2.2.1) hx
theorem lSpreads.mk  (hs : SpecsOK Tryd.prog (lSpreads.specs ))  (H : ∀ (x0 : ByteArray) (x1 : Int) (x2 : Int), lSpreads.pre (x0, x1, x2, ()) = true → ∃ m, lSpreads.go  m x0 x1 x2 = some (lSpreads.res (x0, x1, x2, ()), [])) : SpecOK Tryd.prog 6 lSpreads.sp :=
  lSpreads.mkR fun x0 x1 x2 hx => (H x0 x1 x2 hx).elim fun _ hm => lSpreads.ret  hs  x0 x1 x2 hm

end Go.Proofs.YtlaejhjpmbblfaaDoor
