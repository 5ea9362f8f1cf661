/-
  Steps of the bodies, from checkpoint to checkpoint (printed by wip/VE/mk2.py).
-/
import Derived.Test.YtognnacdakfekaaUB
namespace Go.Proofs.Ytognnacdakfekaa
open Go VE

/-! ### triage/triageref1.Draw -/
abbrev draw.ps : List AK := [.d false (.int .i64), .d false (.int .i64)]
def draw.pre : ElA draw.ps → Bool := fun (x : Int × Int × Unit) => fits (.int .i64) (x.1) && (fits (.int .i64) (x.2.1) && ((fun d n => decide (n ≤ 1000000)) x.1 x.2.1 && (true)))
def draw.res : ElA draw.ps → IV := fun (x : Int × Int × Unit) => (fun d n => vi .i64 (drawR d n)) x.1 x.2.1
def draw.sp : ISpec := spOf draw.ps draw.pre draw.res
abbrev draw.OK : Prop := SpecOK Try.prog 10 draw.sp
noncomputable def draw.body : Code := bodyOf Try.f10
noncomputable def draw.rs : List ResultVar := Try.f10.results.toList
def draw.live : List (Nat × Live) := []
noncomputable def draw.specs  : List (Nat × (List Bool × ISpec)) := []
noncomputable def draw.ospecs  : List (Nat × OS) := []
noncomputable def draw.cfg  : Cfg := ⟨lkp tab, lkp (draw.specs ), lkp draw.live, ⟨lkp (draw.ospecs ), [], none, false, []⟩⟩
noncomputable def draw.go  (m : Nat) (x0 : Int) (x1 : Int) : R := run (draw.cfg ) 16 draw.rs m [.code draw.body] (enter (ivA draw.ps (x0, x1, ())))
theorem draw.start  (m : Nat) (x0 : Int) (x1 : Int) : draw.go  (m + 1) x0 x1 =
  cond (decide (x1 < (1 : Int))) (
   some ((.c (.v (.int .i64 (0 : Int)))), [])) (
   test (Bool.not (decide (x1 = (0 : Int)))) (
    cond (decide ((Int.tmod x0 x1) < (0 : Int))) (
     some ((.c (.v (.int .i64 (IntKind.i64.wrap ((Int.tmod x0 x1) + x1))))), [])) (
     some ((.c (.v (.int .i64 (Int.tmod x0 x1)))), [])))) := by kernel_rfl
theorem draw.run_eq  (m : Nat) (x0 : Int) (x1 : Int) : run (draw.cfg ) Try.f10.ntmps Try.f10.results.toList m [.code (bodyOf Try.f10)] (enter (ivA draw.ps (x0, x1, ()))) = draw.go  m x0 x1 := by kernel_rfl
theorem draw.ret  (hs : SpecsOK Try.prog (draw.specs ))  (x0 : Int) (x1 : Int) {m : Nat} {r : IV} (h : draw.go  m x0 x1 = some (r, [])) : VE.Returns Try.prog 10 (ivA draw.ps (x0, x1, ())) r :=
  returns_of_run (cfg := draw.cfg ) (cfgOK_of mixed tab_ok hs .nil) rfl Try.func10 (body_some (by kernel_rfl)) (Nat.le_of_ble_eq_true (by kernel_rfl)) ((draw.run_eq  m x0 x1).trans h)
abbrev draw.Law : Prop := ∀ (x0 : Int) (x1 : Int), draw.pre (x0, x1, ()) = true → VE.Returns Try.prog 10 (ivA draw.ps (x0, x1, ())) (draw.res (x0, x1, ()))
theorem draw.mkR (H : ∀ (x0 : Int) (x1 : Int), draw.pre (x0, x1, ()) = true → VE.Returns Try.prog 10 (ivA draw.ps (x0, x1, ())) (draw.res (x0, x1, ()))) : SpecOK Try.prog 10 draw.sp :=
  specOf_ret Try.func10 (by kernel_rfl) (by kernel_rfl) fun (x : Int × Int × Unit) hx => H (x.1) (x.2.1) hx
theorem draw.mk  (hs : SpecsOK Try.prog (draw.specs ))  (H : ∀ (x0 : Int) (x1 : Int), draw.pre (x0, x1, ()) = true → ∃ m, draw.go  m x0 x1 = some (draw.res (x0, x1, ()), [])) : SpecOK Try.prog 10 draw.sp :=
  draw.mkR fun x0 x1 hx => (H x0 x1 hx).elim fun _ hm => draw.ret  hs  x0 x1 hm

/-! ### triage/triageref1.Parts -/
abbrev partsR.ps : List AK := [.d false .str, .d false (.int .u8)]
def partsR.pre : ElA partsR.ps → Bool := fun (x : ByteArray × Int × Unit) => fits .str (x.1) && (fits (.int .u8) (x.2.1) && ((fun s b => decide (ByteArray.size s ≤ 1000)) x.1 x.2.1 && (true)))
def partsR.res : ElA partsR.ps → IV := fun (x : ByteArray × Int × Unit) => (fun s b => .c (.sl .str (partsL s b))) x.1 x.2.1
def partsR.sp : ISpec := spOf partsR.ps partsR.pre partsR.res
abbrev partsR.OK : Prop := SpecOK Try.prog 12 partsR.sp
noncomputable def partsR.body : Code := bodyOf Try.f12
noncomputable def partsR.rs : List ResultVar := Try.f12.results.toList
def partsR.live : List (Nat × Live) := [(4, ⟨[(0, .plain), (1, .plain), (5, .arr 9 .str), (6, .plain), (9, .plain), (10, .plain)], []⟩)]
noncomputable def partsR.specs  : List (Nat × (List Bool × ISpec)) := []
noncomputable def partsR.ospecs  : List (Nat × OS) := []
noncomputable def partsR.cfg  : Cfg := ⟨lkp tab, lkp (partsR.specs ), lkp partsR.live, ⟨lkp (partsR.ospecs ), [], none, false, []⟩⟩
noncomputable def partsR.l1  (m : Nat) (x0 : ByteArray) (x1 : Int) (x2 : Int) (x3 : Int) (x4 : Int) (x5 : List ByteArray) : R := run (partsR.cfg ) 34 partsR.rs m ((todoR 4 partsR.body []).getD []) ⟨ofList (.c .junk) [(0, (.c (.v (.string x0)))), (1, (.c (.v (.int .u8 x1)))), (5, (.c (.sref 766))), (6, (.c (.v (.int .i64 x2)))), (9, (.c (.v (.int .i64 x3)))), (10, (.c (.v (.int .i64 x4))))], ofList none [(766, some (.arr 9 .str x5 false))], ofList false [(766, true)]⟩
noncomputable def partsR.go  (m : Nat) (x0 : ByteArray) (x1 : Int) : R := run (partsR.cfg ) 34 partsR.rs m [.code partsR.body] (enter (ivA partsR.ps (x0, x1, ())))
theorem partsR.start  (m : Nat) (x0 : ByteArray) (x1 : Int) : partsR.go  (m + 1) x0 x1 =
  partsR.l1  m x0 x1 (0 : Int) ((ByteArray.size x0) : Int) (0 : Int) ([] : List ByteArray) := by kernel_rfl
theorem partsR.s1  (m : Nat) (x0 : ByteArray) (x1 : Int) (x2 : Int) (x3 : Int) (x4 : Int) (x5 : List ByteArray) : partsR.l1  (m + 1) x0 x1 x2 x3 x4 x5 =
  cond (decide (x4 < x3)) (
   test (decide ((0 : Int) ≤ x4)) (
    test (decide (x4 < ((ByteArray.size x0) : Int))) (
     cond ((byteAt x0 x4) == x1) (
      test (decide ((0 : Int) ≤ x4)) (
       test (decide (x4 ≤ ((ByteArray.size x0) : Int))) (
        test (decide ((0 : Int) ≤ x2)) (
         test (decide (x2 ≤ ((Int.toNat x4) : Int))) (
          test (decide (((List.length x5) + (List.length ((ByteArray.extract x0 (Int.toNat x2) (Int.toNat x4)) :: ([] : List ByteArray)))) ≤ (lim 16))) (
           partsR.l1  m x0 x1 (IntKind.i64.wrap (x4 + (1 : Int))) x3 (IntKind.i64.wrap (x4 + (1 : Int))) (x5 ++ ((ByteArray.extract x0 (Int.toNat x2) (Int.toNat x4)) :: ([] : List ByteArray))))))))) (
      partsR.l1  m x0 x1 x2 x3 (IntKind.i64.wrap (x4 + (1 : Int))) x5)))) (
   test (decide ((0 : Int) ≤ x2)) (
    test (decide (x2 ≤ ((ByteArray.size x0) : Int))) (
     test (decide (((List.length x5) + (List.length ((ByteArray.extract x0 (Int.toNat x2) (ByteArray.size x0)) :: ([] : List ByteArray)))) ≤ (lim 16))) (
      some ((.c (.sl .str (x5 ++ ((ByteArray.extract x0 (Int.toNat x2) (ByteArray.size x0)) :: ([] : List ByteArray))))), []))))) := by kernel_rfl
theorem partsR.run_eq  (m : Nat) (x0 : ByteArray) (x1 : Int) : run (partsR.cfg ) Try.f12.ntmps Try.f12.results.toList m [.code (bodyOf Try.f12)] (enter (ivA partsR.ps (x0, x1, ()))) = partsR.go  m x0 x1 := by kernel_rfl
theorem partsR.ret  (hs : SpecsOK Try.prog (partsR.specs ))  (x0 : ByteArray) (x1 : Int) {m : Nat} {r : IV} (h : partsR.go  m x0 x1 = some (r, [])) : VE.Returns Try.prog 12 (ivA partsR.ps (x0, x1, ())) r :=
  returns_of_run (cfg := partsR.cfg ) (cfgOK_of mixed tab_ok hs .nil) rfl Try.func12 (body_some (by kernel_rfl)) (Nat.le_of_ble_eq_true (by kernel_rfl)) ((partsR.run_eq  m x0 x1).trans h)
abbrev partsR.Law : Prop := ∀ (x0 : ByteArray) (x1 : Int), partsR.pre (x0, x1, ()) = true → VE.Returns Try.prog 12 (ivA partsR.ps (x0, x1, ())) (partsR.res (x0, x1, ()))
theorem partsR.mkR (H : ∀ (x0 : ByteArray) (x1 : Int), partsR.pre (x0, x1, ()) = true → VE.Returns Try.prog 12 (ivA partsR.ps (x0, x1, ())) (partsR.res (x0, x1, ()))) : SpecOK Try.prog 12 partsR.sp :=
  specOf_ret Try.func12 (by kernel_rfl) (by kernel_rfl) fun (x : ByteArray × Int × Unit) hx => H (x.1) (x.2.1) hx
theorem partsR.mk  (hs : SpecsOK Try.prog (partsR.specs ))  (H : ∀ (x0 : ByteArray) (x1 : Int), partsR.pre (x0, x1, ()) = true → ∃ m, partsR.go  m x0 x1 = some (partsR.res (x0, x1, ()), [])) : SpecOK Try.prog 12 partsR.sp :=
  partsR.mkR fun x0 x1 hx => (H x0 x1 hx).elim fun _ hm => partsR.ret  hs  x0 x1 hm

/-! ### triage/triagelaw4.awake -/
abbrev awake.ps : List AK := []
def awake.pre : ElA awake.ps → Bool := fun (x : Unit) => true
def awake.res : ElA awake.ps → IV := fun (x : Unit) => (vb true) 
def awake.sp : ISpec := spOf awake.ps awake.pre awake.res
abbrev awake.OK : Prop := SpecOK Try.prog 7 awake.sp
noncomputable def awake.body : Code := bodyOf Try.f7
noncomputable def awake.rs : List ResultVar := Try.f7.results.toList
def awake.live : List (Nat × Live) := []
noncomputable def awake.specs  : List (Nat × (List Bool × ISpec)) := [(9, ([], turn.sp)), (13, ([], times.sp)), (11, ([], parts.sp)), (8, ([], (orSp rowT.ps rowT.pre rowT.res rowS.sp)))]
noncomputable def awake.ospecs  : List (Nat × OS) := []
noncomputable def awake.cfg  : Cfg := ⟨lkp tab, lkp (awake.specs ), lkp awake.live, ⟨lkp (awake.ospecs ), [], none, false, []⟩⟩
noncomputable def awake.go  (m : Nat)  : R := run (awake.cfg ) 52 awake.rs m [.code awake.body] (enter (ivA awake.ps ()))
theorem awake.start  (m : Nat)  : awake.go  (m + 1)  =
  some ((.c (.v (.bool ((rdEl (.int .i64) (rowL (timesL (5 : Int) (10 : Int) (30 : Int)) (9 : Int)) (Int.toNat (2 : Int))) == (25 : Int))))), []) := by kernel_rfl
theorem awake.run_eq  (m : Nat)  : run (awake.cfg ) Try.f7.ntmps Try.f7.results.toList m [.code (bodyOf Try.f7)] (enter (ivA awake.ps ())) = awake.go  m  := by kernel_rfl
theorem awake.ret  (hs : SpecsOK Try.prog (awake.specs ))   {m : Nat} {r : IV} (h : awake.go  m  = some (r, [])) : VE.Returns Try.prog 7 (ivA awake.ps ()) r :=
  returns_of_run (cfg := awake.cfg ) (cfgOK_of mixed tab_ok hs .nil) rfl Try.func7 (body_some (by kernel_rfl)) (Nat.le_of_ble_eq_true (by kernel_rfl)) ((awake.run_eq  m ).trans h)
abbrev awake.Law : Prop := ∀ (_ : Unit), awake.pre () = true → VE.Returns Try.prog 7 (ivA awake.ps ()) (awake.res ())
theorem awake.mkR (H : ∀ (_ : Unit), awake.pre () = true → VE.Returns Try.prog 7 (ivA awake.ps ()) (awake.res ())) : SpecOK Try.prog 7 awake.sp :=
  specOf_ret Try.func7 (by kernel_rfl) (by kernel_rfl) fun (x : Unit) hx => H () hx
theorem awake.mk  (hs : SpecsOK Try.prog (awake.specs ))  (H : ∀ (_ : Unit), awake.pre () = true → ∃ m, awake.go  m  = some (awake.res (), [])) : SpecOK Try.prog 7 awake.sp :=
  awake.mkR fun _ hx => (H () hx).elim fun _ hm => awake.ret  hs   hm

/-! ### triage/triagelaw4.TurnForms -/
abbrev lForms.ps : List AK := [.d false (.int .i64), .d false (.int .i64), .d false (.int .i64), .d false (.int .i64), .d false .str, .d false (.int .u8)]
def lForms.pre : ElA lForms.ps → Bool := fun (x : Int × Int × Int × Int × ByteArray × Int × Unit) => fits (.int .i64) (x.1) && (fits (.int .i64) (x.2.1) && (fits (.int .i64) (x.2.2.1) && (fits (.int .i64) (x.2.2.2.1) && (fits .str (x.2.2.2.2.1) && (fits (.int .u8) (x.2.2.2.2.2.1) && (true))))))
def lForms.res : ElA lForms.ps → IV := fun (x : Int × Int × Int × Int × ByteArray × Int × Unit) => (fun _ _ _ _ _ _ => vb true) x.1 x.2.1 x.2.2.1 x.2.2.2.1 x.2.2.2.2.1 x.2.2.2.2.2.1
def lForms.sp : ISpec := spOf lForms.ps lForms.pre lForms.res
abbrev lForms.OK : Prop := SpecOK Try.prog 3 lForms.sp
noncomputable def lForms.body : Code := bodyOf Try.f3
noncomputable def lForms.rs : List ResultVar := Try.f3.results.toList
def lForms.live : List (Nat × Live) := [(25, ⟨[(1, .plain), (2, .plain), (3, .plain), (19, .sl (.int .i64)), (108, .sl (.int .i64)), (109, .plain), (110, .plain)], []⟩), (16, ⟨[(1, .plain), (2, .plain), (3, .plain), (16, .sl .str), (17, .sl .str), (68, .plain), (69, .plain)], []⟩), (7, ⟨[(0, .plain), (1, .plain), (2, .plain), (3, .plain), (4, .plain), (5, .plain), (39, .sl (.int .i64)), (40, .plain), (41, .plain)], []⟩)]
noncomputable def lForms.specs  : List (Nat × (List Bool × ISpec)) := [(7, ([], awake.sp)), (9, ([], turn.sp)), (13, ([], times.sp)), (11, ([], parts.sp)), (12, ([], partsR.sp)), (10, ([], draw.sp)), (8, ([], (orSp rowT.ps rowT.pre rowT.res rowS.sp)))]
noncomputable def lForms.ospecs  : List (Nat × OS) := []
noncomputable def lForms.cfg  : Cfg := ⟨lkp tab, lkp (lForms.specs ), lkp lForms.live, ⟨lkp (lForms.ospecs ), [], none, false, []⟩⟩
noncomputable def lForms.l1  (m : Nat) (x0 : Int) (x1 : Int) (x2 : Int) (x3 : Int) (x4 : ByteArray) (x5 : Int) (x6 : List Int) (x7 : Int) (x8 : Int) : R := run (lForms.cfg ) 170 lForms.rs m ((todoR 7 lForms.body []).getD []) ⟨ofList (.c .junk) [(0, (.c (.v (.int .i64 x0)))), (1, (.c (.v (.int .i64 x1)))), (2, (.c (.v (.int .i64 x2)))), (3, (.c (.v (.int .i64 x3)))), (4, (.c (.v (.string x4)))), (5, (.c (.v (.int .u8 x5)))), (39, (.c (.sl (.int .i64) x6))), (40, (.c (.v (.int .i64 x7)))), (41, (.c (.v (.int .i64 x8))))], ofList none [], ofList false []⟩
noncomputable def lForms.l2  (m : Nat) (x0 : Int) (x1 : Int) (x2 : Int) (x3 : List ByteArray) (x4 : List ByteArray) (x5 : Int) (x6 : Int) : R := run (lForms.cfg ) 170 lForms.rs m ((todoR 16 lForms.body []).getD []) ⟨ofList (.c .junk) [(1, (.c (.v (.int .i64 x0)))), (2, (.c (.v (.int .i64 x1)))), (3, (.c (.v (.int .i64 x2)))), (16, (.c (.sl .str x3))), (17, (.c (.sl .str x4))), (68, (.c (.v (.int .i64 x5)))), (69, (.c (.v (.int .i64 x6))))], ofList none [], ofList false []⟩
noncomputable def lForms.l3  (m : Nat) (x0 : Int) (x1 : Int) (x2 : Int) (x3 : List Int) (x4 : List Int) (x5 : Int) (x6 : Int) : R := run (lForms.cfg ) 170 lForms.rs m ((todoR 25 lForms.body []).getD []) ⟨ofList (.c .junk) [(1, (.c (.v (.int .i64 x0)))), (2, (.c (.v (.int .i64 x1)))), (3, (.c (.v (.int .i64 x2)))), (19, (.c (.sl (.int .i64) x3))), (108, (.c (.sl (.int .i64) x4))), (109, (.c (.v (.int .i64 x5)))), (110, (.c (.v (.int .i64 x6))))], ofList none [], ofList false []⟩
noncomputable def lForms.go  (m : Nat) (x0 : Int) (x1 : Int) (x2 : Int) (x3 : Int) (x4 : ByteArray) (x5 : Int) : R := run (lForms.cfg ) 170 lForms.rs m [.code lForms.body] (enter (ivA lForms.ps (x0, x1, x2, x3, x4, x5, ())))
theorem lForms.start  (m : Nat) (x0 : Int) (x1 : Int) (x2 : Int) (x3 : Int) (x4 : ByteArray) (x5 : Int) : lForms.go  (m + 1) x0 x1 x2 x3 x4 x5 =
  cond (decide (x0 > (500 : Int))) (
   some ((.c (.v (.bool true))), [])) (
   cond (decide (((ByteArray.size x4) : Int) > (1000 : Int))) (
    some ((.c (.v (.bool true))), [])) (
    test (rowT.pre ((x0, (x1, Unit.unit)), ((600 : Int), Unit.unit))) (
     cond (bne ((List.length (rowL (turnL x0 x1) (600 : Int))) : Int) (ite (x0 > (0 : Int)) x0 (0 : Int))) (
      some ((.c (.v (.bool false))), [])) (
      lForms.l1  m x0 x1 x2 x3 x4 x5 (rowL (turnL x0 x1) (600 : Int)) ((List.length (rowL (turnL x0 x1) (600 : Int))) : Int) (0 : Int))))) := by kernel_rfl
theorem lForms.s1  (m : Nat) (x0 : Int) (x1 : Int) (x2 : Int) (x3 : Int) (x4 : ByteArray) (x5 : Int) (x6 : List Int) (x7 : Int) (x8 : Int) : lForms.l1  (m + 1) x0 x1 x2 x3 x4 x5 x6 x7 x8 =
  cond (decide (x8 < x7)) (
   test (decide ((0 : Int) ≤ x8)) (
    test (decide (x8 < ((List.length x6) : Int))) (
     test (draw.pre (x1, (x0, Unit.unit))) (
      test (Bool.not (decide (x0 = (0 : Int)))) (
       cond (bne (rdEl (.int .i64) x6 (Int.toNat x8)) (Int.tmod (IntKind.i64.wrap ((drawR x1 x0) + x8)) x0)) (
        some ((.c (.v (.bool false))), [])) (
        lForms.l1  m x0 x1 x2 x3 x4 x5 x6 x7 (IntKind.i64.wrap (x8 + (1 : Int))))))))) (
   test (parts.pre (x4, (x5, Unit.unit))) (
    test (partsR.pre (x4, (x5, Unit.unit))) (
     cond (bne ((List.length (partsL x4 x5)) : Int) ((List.length (partsL x4 x5)) : Int)) (
      some ((.c (.v (.bool false))), [])) (
      lForms.l2  m x1 x2 x3 (partsL x4 x5) (partsL x4 x5) ((List.length (partsL x4 x5)) : Int) (0 : Int))))) := by kernel_rfl
theorem lForms.s2  (m : Nat) (x0 : Int) (x1 : Int) (x2 : Int) (x3 : List ByteArray) (x4 : List ByteArray) (x5 : Int) (x6 : Int) : lForms.l2  (m + 1) x0 x1 x2 x3 x4 x5 x6 =
  cond (decide (x6 < x5)) (
   test (decide ((0 : Int) ≤ x6)) (
    test (decide (x6 < ((List.length x3) : Int))) (
     test (decide ((0 : Int) ≤ x6)) (
      test (decide (x6 < ((List.length x4) : Int))) (
       cond (Bool.not ((ByteArray.toList (rdEl .str x3 (Int.toNat x6))) == (ByteArray.toList (rdEl .str x4 (Int.toNat x6))))) (
        some ((.c (.v (.bool false))), [])) (
        lForms.l2  m x0 x1 x2 x3 x4 x5 (IntKind.i64.wrap (x6 + (1 : Int))))))))) (
   cond (decide (x1 < (1 : Int))) (
    cond (((List.length (rowL (timesL x0 x1 x2) (300 : Int))) : Int) == (0 : Int)) (
     some ((.c (.v (.bool true))), [])) (
     some ((.c (.v (.bool false))), []))) (
    cond (decide (x0 < (0 : Int))) (
     cond (((List.length (rowL (timesL x0 x1 x2) (300 : Int))) : Int) == (0 : Int)) (
      some ((.c (.v (.bool true))), [])) (
      some ((.c (.v (.bool false))), []))) (
     cond (decide (x2 > (4611686018427387904 : Int))) (
      cond (((List.length (rowL (timesL x0 x1 x2) (300 : Int))) : Int) == (0 : Int)) (
       some ((.c (.v (.bool true))), [])) (
       some ((.c (.v (.bool false))), []))) (
      cond (decide (x0 > x2)) (
       cond (((List.length (rowL (timesL x0 x1 x2) (300 : Int))) : Int) == (0 : Int)) (
        some ((.c (.v (.bool true))), [])) (
        some ((.c (.v (.bool false))), []))) (
       lForms.l3  m x0 x1 x2 (rowL (timesL x0 x1 x2) (300 : Int)) (rowL (timesL x0 x1 x2) (300 : Int)) ((List.length (rowL (timesL x0 x1 x2) (300 : Int))) : Int) (0 : Int)))))) := by kernel_rfl
theorem lForms.s3  (m : Nat) (x0 : Int) (x1 : Int) (x2 : Int) (x3 : List Int) (x4 : List Int) (x5 : Int) (x6 : Int) : lForms.l3  (m + 1) x0 x1 x2 x3 x4 x5 x6 =
  cond (decide (x6 < x5)) (
   test (decide ((0 : Int) ≤ x6)) (
    test (decide (x6 < ((List.length x4) : Int))) (
     cond (decide ((rdEl (.int .i64) x4 (Int.toNat x6)) < (0 : Int))) (
      some ((.c (.v (.bool false))), [])) (
      cond (decide ((rdEl (.int .i64) x4 (Int.toNat x6)) > x2)) (
       some ((.c (.v (.bool false))), [])) (
       cond (x6 == (0 : Int)) (
        cond (bne (rdEl (.int .i64) x4 (Int.toNat x6)) x0) (
         some ((.c (.v (.bool false))), [])) (
         cond (decide (x6 > (0 : Int))) (
          test (decide ((0 : Int) ≤ (IntKind.i64.wrap (x6 - (1 : Int))))) (
           test (decide ((IntKind.i64.wrap (x6 - (1 : Int))) < ((List.length x3) : Int))) (
            cond (bne (IntKind.i64.wrap ((rdEl (.int .i64) x4 (Int.toNat x6)) - (rdEl (.int .i64) x3 (Int.toNat (IntKind.i64.wrap (x6 - (1 : Int))))))) x1) (
             some ((.c (.v (.bool false))), [])) (
             lForms.l3  m x0 x1 x2 x3 x4 x5 (IntKind.i64.wrap (x6 + (1 : Int))))))) (
          lForms.l3  m x0 x1 x2 x3 x4 x5 (IntKind.i64.wrap (x6 + (1 : Int)))))) (
        cond (decide (x6 > (0 : Int))) (
         test (decide ((0 : Int) ≤ (IntKind.i64.wrap (x6 - (1 : Int))))) (
          test (decide ((IntKind.i64.wrap (x6 - (1 : Int))) < ((List.length x3) : Int))) (
           cond (bne (IntKind.i64.wrap ((rdEl (.int .i64) x4 (Int.toNat x6)) - (rdEl (.int .i64) x3 (Int.toNat (IntKind.i64.wrap (x6 - (1 : Int))))))) x1) (
            some ((.c (.v (.bool false))), [])) (
            lForms.l3  m x0 x1 x2 x3 x4 x5 (IntKind.i64.wrap (x6 + (1 : Int))))))) (
         lForms.l3  m x0 x1 x2 x3 x4 x5 (IntKind.i64.wrap (x6 + (1 : Int)))))))))) (
   cond (decide (((List.length x3) : Int) > (0 : Int))) (
    cond (((List.length x3) : Int) == (300 : Int)) (
     some ((.c (.v (.bool true))), [])) (
     test (decide ((0 : Int) ≤ (IntKind.i64.wrap (((List.length x3) : Int) - (1 : Int))))) (
      test (decide ((IntKind.i64.wrap (((List.length x3) : Int) - (1 : Int))) < ((List.length x3) : Int))) (
       cond (decide ((IntKind.i64.wrap (x2 - (rdEl (.int .i64) x3 (Int.toNat (IntKind.i64.wrap (((List.length x3) : Int) - (1 : Int))))))) < x1)) (
        some ((.c (.v (.bool true))), [])) (
        some ((.c (.v (.bool false))), [])))))) (
    some ((.c (.v (.bool false))), []))) := by kernel_rfl
theorem lForms.run_eq  (m : Nat) (x0 : Int) (x1 : Int) (x2 : Int) (x3 : Int) (x4 : ByteArray) (x5 : Int) : run (lForms.cfg ) Try.f3.ntmps Try.f3.results.toList m [.code (bodyOf Try.f3)] (enter (ivA lForms.ps (x0, x1, x2, x3, x4, x5, ()))) = lForms.go  m x0 x1 x2 x3 x4 x5 := by kernel_rfl
theorem lForms.ret  (hs : SpecsOK Try.prog (lForms.specs ))  (x0 : Int) (x1 : Int) (x2 : Int) (x3 : Int) (x4 : ByteArray) (x5 : Int) {m : Nat} {r : IV} (h : lForms.go  m x0 x1 x2 x3 x4 x5 = some (r, [])) : VE.Returns Try.prog 3 (ivA lForms.ps (x0, x1, x2, x3, x4, x5, ())) r :=
  returns_of_run (cfg := lForms.cfg ) (cfgOK_of mixed tab_ok hs .nil) rfl Try.func3 (body_some (by kernel_rfl)) (Nat.le_of_ble_eq_true (by kernel_rfl)) ((lForms.run_eq  m x0 x1 x2 x3 x4 x5).trans h)
abbrev lForms.Law : Prop := ∀ (x0 : Int) (x1 : Int) (x2 : Int) (x3 : Int) (x4 : ByteArray) (x5 : Int), lForms.pre (x0, x1, x2, x3, x4, x5, ()) = true → VE.Returns Try.prog 3 (ivA lForms.ps (x0, x1, x2, x3, x4, x5, ())) (lForms.res (x0, x1, x2, x3, x4, x5, ()))
theorem lForms.mkR (H : ∀ (x0 : Int) (x1 : Int) (x2 : Int) (x3 : Int) (x4 : ByteArray) (x5 : Int), lForms.pre (x0, x1, x2, x3, x4, x5, ()) = true → VE.Returns Try.prog 3 (ivA lForms.ps (x0, x1, x2, x3, x4, x5, ())) (lForms.res (x0, x1, x2, x3, x4, x5, ()))) : SpecOK Try.prog 3 lForms.sp :=
  specOf_ret Try.func3 (by kernel_rfl) (by kernel_rfl) fun (x : Int × Int × Int × Int × ByteArray × Int × Unit) hx => H (x.1) (x.2.1) (x.2.2.1) (x.2.2.2.1) (x.2.2.2.2.1) (x.2.2.2.2.2.1) hx
theorem lForms.mk  (hs : SpecsOK Try.prog (lForms.specs ))  (H : ∀ (x0 : Int) (x1 : Int) (x2 : Int) (x3 : Int) (x4 : ByteArray) (x5 : Int), lForms.pre (x0, x1, x2, x3, x4, x5, ()) = true → ∃ m, lForms.go  m x0 x1 x2 x3 x4 x5 = some (lForms.res (x0, x1, x2, x3, x4, x5, ()), [])) : SpecOK Try.prog 3 lForms.sp :=
  lForms.mkR fun x0 x1 x2 x3 x4 x5 hx => (H x0 x1 x2 x3 x4 x5 hx).elim fun _ hm => lForms.ret  hs  x0 x1 x2 x3 x4 x5 hm

/-! ### triage/triagelaw4.TurnOnce -/
abbrev lOnce.ps : List AK := [.d false (.int .i64), .d false (.int .i64), .d false (.int .i64)]
def lOnce.pre : ElA lOnce.ps → Bool := fun (x : Int × Int × Int × Unit) => fits (.int .i64) (x.1) && (fits (.int .i64) (x.2.1) && (fits (.int .i64) (x.2.2.1) && (true)))
def lOnce.res : ElA lOnce.ps → IV := fun (x : Int × Int × Int × Unit) => (fun _ _ _ => vb true) x.1 x.2.1 x.2.2.1
def lOnce.sp : ISpec := spOf lOnce.ps lOnce.pre lOnce.res
abbrev lOnce.OK : Prop := SpecOK Try.prog 4 lOnce.sp
noncomputable def lOnce.body : Code := bodyOf Try.f4
noncomputable def lOnce.rs : List ResultVar := Try.f4.results.toList
def lOnce.live : List (Nat × Live) := [(19, ⟨[(0, .plain), (2, .plain), (8, .sl (.int .i64)), (9, .sl (.int .i64)), (58, .plain), (59, .plain)], []⟩), (13, ⟨[(0, .plain), (2, .plain), (8, .sl (.int .i64)), (9, .sl (.int .i64)), (10, .plain), (48, .plain), (49, .plain)], [(3073, [])]⟩), (8, ⟨[(0, .plain), (2, .plain), (8, .sl (.int .i64)), (9, .sl (.int .i64)), (10, .plain), (37, .sl (.int .i64)), (38, .plain), (39, .plain)], [(3073, [])]⟩)]
noncomputable def lOnce.specs  : List (Nat × (List Bool × ISpec)) := [(7, ([], awake.sp)), (9, ([], turn.sp)), (8, ([], (orSp rowT.ps rowT.pre rowT.res rowS.sp)))]
noncomputable def lOnce.ospecs  : List (Nat × OS) := []
noncomputable def lOnce.cfg  : Cfg := ⟨lkp tab, lkp (lOnce.specs ), lkp lOnce.live, ⟨lkp (lOnce.ospecs ), [], none, false, []⟩⟩
noncomputable def lOnce.l1  (m : Nat) (x0 : Int) (x1 : Int) (x2 : List Int) (x3 : List Int) (x4 : List Int) (x5 : Int) (x6 : Int) (x7 : List (Int × Int × Nat)) (x8 : Nat) : R := run (lOnce.cfg ) 91 lOnce.rs m ((todoR 8 lOnce.body []).getD []) ⟨ofList (.c .junk) [(0, (.c (.v (.int .i64 x0)))), (2, (.c (.v (.int .i64 x1)))), (8, (.c (.sl (.int .i64) x2))), (9, (.c (.sl (.int .i64) x3))), (10, (.c (.mref 3073))), (37, (.c (.sl (.int .i64) x4))), (38, (.c (.v (.int .i64 x5)))), (39, (.c (.v (.int .i64 x6))))], ofList none [(3073, some (.map (.int .i64) (.int .i64) x7 x8))], ofList false [(3073, true)]⟩
noncomputable def lOnce.l2  (m : Nat) (x0 : Int) (x1 : Int) (x2 : List Int) (x3 : List Int) (x4 : Int) (x5 : Int) (x6 : List (Int × Int × Nat)) (x7 : Nat) : R := run (lOnce.cfg ) 91 lOnce.rs m ((todoR 13 lOnce.body []).getD []) ⟨ofList (.c .junk) [(0, (.c (.v (.int .i64 x0)))), (2, (.c (.v (.int .i64 x1)))), (8, (.c (.sl (.int .i64) x2))), (9, (.c (.sl (.int .i64) x3))), (10, (.c (.mref 3073))), (48, (.c (.v (.int .i64 x4)))), (49, (.c (.v (.int .i64 x5))))], ofList none [(3073, some (.map (.int .i64) (.int .i64) x6 x7))], ofList false [(3073, true)]⟩
noncomputable def lOnce.l3  (m : Nat) (x0 : Int) (x1 : Int) (x2 : List Int) (x3 : List Int) (x4 : Int) (x5 : Int) : R := run (lOnce.cfg ) 91 lOnce.rs m ((todoR 19 lOnce.body []).getD []) ⟨ofList (.c .junk) [(0, (.c (.v (.int .i64 x0)))), (2, (.c (.v (.int .i64 x1)))), (8, (.c (.sl (.int .i64) x2))), (9, (.c (.sl (.int .i64) x3))), (58, (.c (.v (.int .i64 x4)))), (59, (.c (.v (.int .i64 x5))))], ofList none [], ofList false []⟩
noncomputable def lOnce.go  (m : Nat) (x0 : Int) (x1 : Int) (x2 : Int) : R := run (lOnce.cfg ) 91 lOnce.rs m [.code lOnce.body] (enter (ivA lOnce.ps (x0, x1, x2, ())))
theorem lOnce.start  (m : Nat) (x0 : Int) (x1 : Int) (x2 : Int) : lOnce.go  (m + 1) x0 x1 x2 =
  test (Bool.not (decide ((IntKind.u64.wrap (IntKind.i64.wrap ((IntKind.i64.wrap (Int.tmod (IntKind.u64.wrap x0) (300 : Int))) + (1 : Int)))) = (0 : Int)))) (
   test (rowT.pre (((IntKind.i64.wrap (Int.tmod (IntKind.u64.wrap x0) (300 : Int))), (x1, Unit.unit)), ((IntKind.i64.wrap (Int.tmod (IntKind.u64.wrap x2) (IntKind.u64.wrap (IntKind.i64.wrap ((IntKind.i64.wrap (Int.tmod (IntKind.u64.wrap x0) (300 : Int))) + (1 : Int)))))), Unit.unit))) (
    test (rowT.pre (((IntKind.i64.wrap (Int.tmod (IntKind.u64.wrap x0) (300 : Int))), (x1, Unit.unit)), ((IntKind.i64.wrap ((IntKind.i64.wrap (Int.tmod (IntKind.u64.wrap x0) (300 : Int))) + (5 : Int))), Unit.unit))) (
     lOnce.l1  m (IntKind.i64.wrap (Int.tmod (IntKind.u64.wrap x0) (300 : Int))) (IntKind.i64.wrap (Int.tmod (IntKind.u64.wrap x2) (IntKind.u64.wrap (IntKind.i64.wrap ((IntKind.i64.wrap (Int.tmod (IntKind.u64.wrap x0) (300 : Int))) + (1 : Int)))))) (rowL (turnL (IntKind.i64.wrap (Int.tmod (IntKind.u64.wrap x0) (300 : Int))) x1) (IntKind.i64.wrap (Int.tmod (IntKind.u64.wrap x2) (IntKind.u64.wrap (IntKind.i64.wrap ((IntKind.i64.wrap (Int.tmod (IntKind.u64.wrap x0) (300 : Int))) + (1 : Int))))))) (rowL (turnL (IntKind.i64.wrap (Int.tmod (IntKind.u64.wrap x0) (300 : Int))) x1) (IntKind.i64.wrap ((IntKind.i64.wrap (Int.tmod (IntKind.u64.wrap x0) (300 : Int))) + (5 : Int)))) (rowL (turnL (IntKind.i64.wrap (Int.tmod (IntKind.u64.wrap x0) (300 : Int))) x1) (IntKind.i64.wrap ((IntKind.i64.wrap (Int.tmod (IntKind.u64.wrap x0) (300 : Int))) + (5 : Int)))) ((List.length (rowL (turnL (IntKind.i64.wrap (Int.tmod (IntKind.u64.wrap x0) (300 : Int))) x1) (IntKind.i64.wrap ((IntKind.i64.wrap (Int.tmod (IntKind.u64.wrap x0) (300 : Int))) + (5 : Int))))) : Int) (0 : Int) [] 0))) := by kernel_rfl
theorem lOnce.s1  (m : Nat) (x0 : Int) (x1 : Int) (x2 : List Int) (x3 : List Int) (x4 : List Int) (x5 : Int) (x6 : Int) (x7 : List (Int × Int × Nat)) (x8 : Nat) : lOnce.l1  (m + 1) x0 x1 x2 x3 x4 x5 x6 x7 x8 =
  cond (decide (x6 < x5)) (
   test (decide ((0 : Int) ≤ x6)) (
    test (decide (x6 < ((List.length x4) : Int))) (
     lOnce.l1  m x0 x1 x2 x3 x4 x5 (IntKind.i64.wrap (x6 + (1 : Int))) (setE (.int .i64) (.int .i64) x8 (rdEl (.int .i64) x4 (Int.toNat x6)) (IntKind.i64.wrap ((getE (.int .i64) (.int .i64) (0 : Int) (rdEl (.int .i64) x4 (Int.toNat x6)) x7) + (1 : Int))) x7) (clockE (.int .i64) (.int .i64) x8 (rdEl (.int .i64) x4 (Int.toNat x6)) x7)))) (
   lOnce.l2  m x0 x1 x2 x3 x0 (0 : Int) x7 x8) := by kernel_rfl
theorem lOnce.s2  (m : Nat) (x0 : Int) (x1 : Int) (x2 : List Int) (x3 : List Int) (x4 : Int) (x5 : Int) (x6 : List (Int × Int × Nat)) (x7 : Nat) : lOnce.l2  (m + 1) x0 x1 x2 x3 x4 x5 x6 x7 =
  cond (decide (x5 < x4)) (
   cond (bne (getE (.int .i64) (.int .i64) (0 : Int) x5 x6) (1 : Int)) (
    some ((.c (.v (.bool false))), [])) (
    lOnce.l2  m x0 x1 x2 x3 x4 (IntKind.i64.wrap (x5 + (1 : Int))) x6 x7)) (
   lOnce.l3  m x0 x1 x2 x3 ((List.length x2) : Int) (0 : Int)) := by kernel_rfl
theorem lOnce.s3  (m : Nat) (x0 : Int) (x1 : Int) (x2 : List Int) (x3 : List Int) (x4 : Int) (x5 : Int) : lOnce.l3  (m + 1) x0 x1 x2 x3 x4 x5 =
  cond (decide (x5 < x4)) (
   cond (decide (x5 ≥ ((List.length x3) : Int))) (
    some ((.c (.v (.bool false))), [])) (
    test (decide ((0 : Int) ≤ x5)) (
     test (decide (x5 < ((List.length x2) : Int))) (
      test (decide ((0 : Int) ≤ x5)) (
       test (decide (x5 < ((List.length x3) : Int))) (
        cond (bne (rdEl (.int .i64) x2 (Int.toNat x5)) (rdEl (.int .i64) x3 (Int.toNat x5))) (
         some ((.c (.v (.bool false))), [])) (
         lOnce.l3  m x0 x1 x2 x3 x4 (IntKind.i64.wrap (x5 + (1 : Int)))))))))) (
   cond (((List.length x2) : Int) == x1) (
    cond (((List.length x3) : Int) == x0) (
     some ((.c (.v (.bool true))), [])) (
     some ((.c (.v (.bool false))), []))) (
    some ((.c (.v (.bool false))), []))) := by kernel_rfl
theorem lOnce.run_eq  (m : Nat) (x0 : Int) (x1 : Int) (x2 : Int) : run (lOnce.cfg ) Try.f4.ntmps Try.f4.results.toList m [.code (bodyOf Try.f4)] (enter (ivA lOnce.ps (x0, x1, x2, ()))) = lOnce.go  m x0 x1 x2 := by kernel_rfl
theorem lOnce.ret  (hs : SpecsOK Try.prog (lOnce.specs ))  (x0 : Int) (x1 : Int) (x2 : Int) {m : Nat} {r : IV} (h : lOnce.go  m x0 x1 x2 = some (r, [])) : VE.Returns Try.prog 4 (ivA lOnce.ps (x0, x1, x2, ())) r :=
  returns_of_run (cfg := lOnce.cfg ) (cfgOK_of mixed tab_ok hs .nil) rfl Try.func4 (body_some (by kernel_rfl)) (Nat.le_of_ble_eq_true (by kernel_rfl)) ((lOnce.run_eq  m x0 x1 x2).trans h)
abbrev lOnce.Law : Prop := ∀ (x0 : Int) (x1 : Int) (x2 : Int), lOnce.pre (x0, x1, x2, ()) = true → VE.Returns Try.prog 4 (ivA lOnce.ps (x0, x1, x2, ())) (lOnce.res (x0, x1, x2, ()))
theorem lOnce.mkR (H : ∀ (x0 : Int) (x1 : Int) (x2 : Int), lOnce.pre (x0, x1, x2, ()) = true → VE.Returns Try.prog 4 (ivA lOnce.ps (x0, x1, x2, ())) (lOnce.res (x0, x1, x2, ()))) : SpecOK Try.prog 4 lOnce.sp :=
  specOf_ret Try.func4 (by kernel_rfl) (by kernel_rfl) fun (x : Int × Int × Int × Unit) hx => H (x.1) (x.2.1) (x.2.2.1) hx
theorem lOnce.mk  (hs : SpecsOK Try.prog (lOnce.specs ))  (H : ∀ (x0 : Int) (x1 : Int) (x2 : Int), lOnce.pre (x0, x1, x2, ()) = true → ∃ m, lOnce.go  m x0 x1 x2 = some (lOnce.res (x0, x1, x2, ()), [])) : SpecOK Try.prog 4 lOnce.sp :=
  lOnce.mkR fun x0 x1 x2 hx => (H x0 x1 x2 hx).elim fun _ hm => lOnce.ret  hs  x0 x1 x2 hm

/-! ### triage/triagelaw4.TurnJoins -/
abbrev lJoins.ps : List AK := [.d false .str, .d false (.int .u8)]
def lJoins.pre : ElA lJoins.ps → Bool := fun (x : ByteArray × Int × Unit) => fits .str (x.1) && (fits (.int .u8) (x.2.1) && (true))
def lJoins.res : ElA lJoins.ps → IV := fun (x : ByteArray × Int × Unit) => (fun _ _ => vb true) x.1 x.2.1
def lJoins.sp : ISpec := spOf lJoins.ps lJoins.pre lJoins.res
abbrev lJoins.OK : Prop := SpecOK Try.prog 5 lJoins.sp
noncomputable def lJoins.body : Code := bodyOf Try.f5
noncomputable def lJoins.rs : List ResultVar := Try.f5.results.toList
def lJoins.live : List (Nat × Live) := [(12, ⟨[(0, .plain), (1, .plain), (5, .sl .str), (6, .plain), (7, .plain), (31, .sl .str), (32, .plain), (33, .plain)], []⟩), (6, ⟨[(0, .plain), (1, .plain), (5, .sl .str), (6, .plain), (7, .plain), (19, .plain), (20, .plain)], []⟩)]
noncomputable def lJoins.specs  : List (Nat × (List Bool × ISpec)) := [(7, ([], awake.sp)), (11, ([], parts.sp))]
noncomputable def lJoins.ospecs  : List (Nat × OS) := []
noncomputable def lJoins.cfg  : Cfg := ⟨lkp tab, lkp (lJoins.specs ), lkp lJoins.live, ⟨lkp (lJoins.ospecs ), [], none, false, []⟩⟩
noncomputable def lJoins.l1  (m : Nat) (x0 : ByteArray) (x1 : Int) (x2 : List ByteArray) (x3 : Int) (x4 : ByteArray) (x5 : Int) (x6 : Int) : R := run (lJoins.cfg ) 61 lJoins.rs m ((todoR 6 lJoins.body []).getD []) ⟨ofList (.c .junk) [(0, (.c (.v (.string x0)))), (1, (.c (.v (.int .u8 x1)))), (5, (.c (.sl .str x2))), (6, (.c (.v (.int .i64 x3)))), (7, (.c (.v (.string x4)))), (19, (.c (.v (.int .i64 x5)))), (20, (.c (.v (.int .i64 x6))))], ofList none [], ofList false []⟩
noncomputable def lJoins.l2  (m : Nat) (x0 : ByteArray) (x1 : Int) (x2 : List ByteArray) (x3 : Int) (x4 : ByteArray) (x5 : List ByteArray) (x6 : Int) (x7 : Int) : R := run (lJoins.cfg ) 61 lJoins.rs m ((todoR 12 lJoins.body []).getD []) ⟨ofList (.c .junk) [(0, (.c (.v (.string x0)))), (1, (.c (.v (.int .u8 x1)))), (5, (.c (.sl .str x2))), (6, (.c (.v (.int .i64 x3)))), (7, (.c (.v (.string x4)))), (31, (.c (.sl .str x5))), (32, (.c (.v (.int .i64 x6)))), (33, (.c (.v (.int .i64 x7))))], ofList none [], ofList false []⟩
noncomputable def lJoins.go  (m : Nat) (x0 : ByteArray) (x1 : Int) : R := run (lJoins.cfg ) 61 lJoins.rs m [.code lJoins.body] (enter (ivA lJoins.ps (x0, x1, ())))
theorem lJoins.start  (m : Nat) (x0 : ByteArray) (x1 : Int) : lJoins.go  (m + 1) x0 x1 =
  cond (decide (((ByteArray.size x0) : Int) > (1000 : Int))) (
   some ((.c (.v (.bool true))), [])) (
   test (parts.pre (x0, (x1, Unit.unit))) (
    lJoins.l1  m x0 x1 (partsL x0 x1) (1 : Int) (⟨#[]⟩ : ByteArray) ((ByteArray.size x0) : Int) (0 : Int))) := by kernel_rfl
theorem lJoins.s1  (m : Nat) (x0 : ByteArray) (x1 : Int) (x2 : List ByteArray) (x3 : Int) (x4 : ByteArray) (x5 : Int) (x6 : Int) : lJoins.l1  (m + 1) x0 x1 x2 x3 x4 x5 x6 =
  cond (decide (x6 < x5)) (
   test (decide ((0 : Int) ≤ x6)) (
    test (decide (x6 < ((ByteArray.size x0) : Int))) (
     cond ((byteAt x0 x6) == x1) (
      lJoins.l1  m x0 x1 x2 (IntKind.i64.wrap (x3 + (1 : Int))) x4 x5 (IntKind.i64.wrap (x6 + (1 : Int)))) (
      lJoins.l1  m x0 x1 x2 x3 x4 x5 (IntKind.i64.wrap (x6 + (1 : Int))))))) (
   lJoins.l2  m x0 x1 x2 x3 x4 x2 ((List.length x2) : Int) (0 : Int)) := by kernel_rfl
theorem lJoins.s2  (m : Nat) (x0 : ByteArray) (x1 : Int) (x2 : List ByteArray) (x3 : Int) (x4 : ByteArray) (x5 : List ByteArray) (x6 : Int) (x7 : Int) : lJoins.l2  (m + 1) x0 x1 x2 x3 x4 x5 x6 x7 =
  cond (decide (x7 < x6)) (
   test (decide ((0 : Int) ≤ x7)) (
    test (decide (x7 < ((List.length x5) : Int))) (
     cond (decide (x7 > (0 : Int))) (
      test (decide (((ByteArray.size x4) + (ByteArray.size (bytesStr (x1 :: ([] : List Int))))) ≤ 9223372036854775807)) (
       test (decide (((ByteArray.size (x4 ++ (bytesStr (x1 :: ([] : List Int))))) + (ByteArray.size (rdEl .str x5 (Int.toNat x7)))) ≤ 9223372036854775807)) (
        lJoins.l2  m x0 x1 x2 x3 ((x4 ++ (bytesStr (x1 :: ([] : List Int)))) ++ (rdEl .str x5 (Int.toNat x7))) x5 x6 (IntKind.i64.wrap (x7 + (1 : Int)))))) (
      test (decide (((ByteArray.size x4) + (ByteArray.size (rdEl .str x5 (Int.toNat x7)))) ≤ 9223372036854775807)) (
       lJoins.l2  m x0 x1 x2 x3 (x4 ++ (rdEl .str x5 (Int.toNat x7))) x5 x6 (IntKind.i64.wrap (x7 + (1 : Int)))))))) (
   cond (((List.length x2) : Int) == x3) (
    cond ((ByteArray.toList x4) == (ByteArray.toList x0)) (
     some ((.c (.v (.bool true))), [])) (
     some ((.c (.v (.bool false))), []))) (
    some ((.c (.v (.bool false))), []))) := by kernel_rfl
theorem lJoins.run_eq  (m : Nat) (x0 : ByteArray) (x1 : Int) : run (lJoins.cfg ) Try.f5.ntmps Try.f5.results.toList m [.code (bodyOf Try.f5)] (enter (ivA lJoins.ps (x0, x1, ()))) = lJoins.go  m x0 x1 := by kernel_rfl
theorem lJoins.ret  (hs : SpecsOK Try.prog (lJoins.specs ))  (x0 : ByteArray) (x1 : Int) {m : Nat} {r : IV} (h : lJoins.go  m x0 x1 = some (r, [])) : VE.Returns Try.prog 5 (ivA lJoins.ps (x0, x1, ())) r :=
  returns_of_run (cfg := lJoins.cfg ) (cfgOK_of mixed tab_ok hs .nil) rfl Try.func5 (body_some (by kernel_rfl)) (Nat.le_of_ble_eq_true (by kernel_rfl)) ((lJoins.run_eq  m x0 x1).trans h)
abbrev lJoins.Law : Prop := ∀ (x0 : ByteArray) (x1 : Int), lJoins.pre (x0, x1, ()) = true → VE.Returns Try.prog 5 (ivA lJoins.ps (x0, x1, ())) (lJoins.res (x0, x1, ()))
theorem lJoins.mkR (H : ∀ (x0 : ByteArray) (x1 : Int), lJoins.pre (x0, x1, ()) = true → VE.Returns Try.prog 5 (ivA lJoins.ps (x0, x1, ())) (lJoins.res (x0, x1, ()))) : SpecOK Try.prog 5 lJoins.sp :=
  specOf_ret Try.func5 (by kernel_rfl) (by kernel_rfl) fun (x : ByteArray × Int × Unit) hx => H (x.1) (x.2.1) hx
theorem lJoins.mk  (hs : SpecsOK Try.prog (lJoins.specs ))  (H : ∀ (x0 : ByteArray) (x1 : Int), lJoins.pre (x0, x1, ()) = true → ∃ m, lJoins.go  m x0 x1 = some (lJoins.res (x0, x1, ()), [])) : SpecOK Try.prog 5 lJoins.sp :=
  lJoins.mkR fun x0 x1 hx => (H x0 x1 hx).elim fun _ hm => lJoins.ret  hs  x0 x1 hm

/-! ### triage/triagelaw4.TurnTimes -/
abbrev lTimes.ps : List AK := [.d false (.int .i64), .d false (.int .i64), .d false (.int .i64)]
def lTimes.pre : ElA lTimes.ps → Bool := fun (x : Int × Int × Int × Unit) => fits (.int .i64) (x.1) && (fits (.int .i64) (x.2.1) && (fits (.int .i64) (x.2.2.1) && (true)))
def lTimes.res : ElA lTimes.ps → IV := fun (x : Int × Int × Int × Unit) => (fun _ _ _ => vb true) x.1 x.2.1 x.2.2.1
def lTimes.sp : ISpec := spOf lTimes.ps lTimes.pre lTimes.res
abbrev lTimes.OK : Prop := SpecOK Try.prog 6 lTimes.sp
noncomputable def lTimes.body : Code := bodyOf Try.f6
noncomputable def lTimes.rs : List ResultVar := Try.f6.results.toList
def lTimes.live : List (Nat × Live) := [(7, ⟨[(0, .plain), (1, .plain), (7, .sl (.int .i64)), (8, .sl (.int .i64)), (57, .plain), (58, .plain)], []⟩)]
noncomputable def lTimes.specs  : List (Nat × (List Bool × ISpec)) := [(7, ([], awake.sp)), (13, ([], times.sp)), (8, ([], (orSp rowT.ps rowT.pre rowT.res rowS.sp)))]
noncomputable def lTimes.ospecs  : List (Nat × OS) := []
noncomputable def lTimes.cfg  : Cfg := ⟨lkp tab, lkp (lTimes.specs ), lkp lTimes.live, ⟨lkp (lTimes.ospecs ), [], none, false, []⟩⟩
noncomputable def lTimes.l1  (m : Nat) (x0 : Int) (x1 : Int) (x2 : List Int) (x3 : List Int) (x4 : Int) (x5 : Int) : R := run (lTimes.cfg ) 102 lTimes.rs m ((todoR 7 lTimes.body []).getD []) ⟨ofList (.c .junk) [(0, (.c (.v (.int .i64 x0)))), (1, (.c (.v (.int .i64 x1)))), (7, (.c (.sl (.int .i64) x2))), (8, (.c (.sl (.int .i64) x3))), (57, (.c (.v (.int .i64 x4)))), (58, (.c (.v (.int .i64 x5))))], ofList none [], ofList false []⟩
noncomputable def lTimes.go  (m : Nat) (x0 : Int) (x1 : Int) (x2 : Int) : R := run (lTimes.cfg ) 102 lTimes.rs m [.code lTimes.body] (enter (ivA lTimes.ps (x0, x1, x2, ())))
theorem lTimes.start  (m : Nat) (x0 : Int) (x1 : Int) (x2 : Int) : lTimes.go  (m + 1) x0 x1 x2 =
  cond (bne ((List.length (rowL (timesL (IntKind.i64.wrap (Int.tmod (IntKind.u64.wrap x0) (100000 : Int))) (IntKind.i64.wrap ((1 : Int) + (IntKind.i64.wrap (Int.tmod (IntKind.u64.wrap x1) (1000 : Int))))) (IntKind.i64.wrap ((IntKind.i64.wrap (Int.tmod (IntKind.u64.wrap x0) (100000 : Int))) + (IntKind.i64.wrap ((IntKind.i64.wrap (Int.tmod (IntKind.u64.wrap x2) (100 : Int))) * (IntKind.i64.wrap ((1 : Int) + (IntKind.i64.wrap (Int.tmod (IntKind.u64.wrap x1) (1000 : Int)))))))))) (200 : Int))) : Int) (IntKind.i64.wrap ((IntKind.i64.wrap (Int.tmod (IntKind.u64.wrap x2) (100 : Int))) + (1 : Int)))) (
   some ((.c (.v (.bool false))), [])) (
   cond (bne ((List.length (rowL (timesL (IntKind.i64.wrap (Int.tmod (IntKind.u64.wrap x0) (100000 : Int))) (IntKind.i64.wrap ((1 : Int) + (IntKind.i64.wrap (Int.tmod (IntKind.u64.wrap x1) (1000 : Int))))) (IntKind.i64.wrap ((IntKind.i64.wrap ((IntKind.i64.wrap ((IntKind.i64.wrap (Int.tmod (IntKind.u64.wrap x0) (100000 : Int))) + (IntKind.i64.wrap ((IntKind.i64.wrap (Int.tmod (IntKind.u64.wrap x2) (100 : Int))) * (IntKind.i64.wrap ((1 : Int) + (IntKind.i64.wrap (Int.tmod (IntKind.u64.wrap x1) (1000 : Int))))))))) + (IntKind.i64.wrap ((1 : Int) + (IntKind.i64.wrap (Int.tmod (IntKind.u64.wrap x1) (1000 : Int))))))) - (1 : Int)))) (200 : Int))) : Int) (IntKind.i64.wrap ((IntKind.i64.wrap (Int.tmod (IntKind.u64.wrap x2) (100 : Int))) + (1 : Int)))) (
    some ((.c (.v (.bool false))), [])) (
    lTimes.l1  m (IntKind.i64.wrap (Int.tmod (IntKind.u64.wrap x0) (100000 : Int))) (IntKind.i64.wrap ((1 : Int) + (IntKind.i64.wrap (Int.tmod (IntKind.u64.wrap x1) (1000 : Int))))) (rowL (timesL (IntKind.i64.wrap (Int.tmod (IntKind.u64.wrap x0) (100000 : Int))) (IntKind.i64.wrap ((1 : Int) + (IntKind.i64.wrap (Int.tmod (IntKind.u64.wrap x1) (1000 : Int))))) (IntKind.i64.wrap ((IntKind.i64.wrap (Int.tmod (IntKind.u64.wrap x0) (100000 : Int))) + (IntKind.i64.wrap ((IntKind.i64.wrap (Int.tmod (IntKind.u64.wrap x2) (100 : Int))) * (IntKind.i64.wrap ((1 : Int) + (IntKind.i64.wrap (Int.tmod (IntKind.u64.wrap x1) (1000 : Int)))))))))) (200 : Int)) (rowL (timesL (IntKind.i64.wrap (Int.tmod (IntKind.u64.wrap x0) (100000 : Int))) (IntKind.i64.wrap ((1 : Int) + (IntKind.i64.wrap (Int.tmod (IntKind.u64.wrap x1) (1000 : Int))))) (IntKind.i64.wrap ((IntKind.i64.wrap ((IntKind.i64.wrap ((IntKind.i64.wrap (Int.tmod (IntKind.u64.wrap x0) (100000 : Int))) + (IntKind.i64.wrap ((IntKind.i64.wrap (Int.tmod (IntKind.u64.wrap x2) (100 : Int))) * (IntKind.i64.wrap ((1 : Int) + (IntKind.i64.wrap (Int.tmod (IntKind.u64.wrap x1) (1000 : Int))))))))) + (IntKind.i64.wrap ((1 : Int) + (IntKind.i64.wrap (Int.tmod (IntKind.u64.wrap x1) (1000 : Int))))))) - (1 : Int)))) (200 : Int)) ((List.length (rowL (timesL (IntKind.i64.wrap (Int.tmod (IntKind.u64.wrap x0) (100000 : Int))) (IntKind.i64.wrap ((1 : Int) + (IntKind.i64.wrap (Int.tmod (IntKind.u64.wrap x1) (1000 : Int))))) (IntKind.i64.wrap ((IntKind.i64.wrap (Int.tmod (IntKind.u64.wrap x0) (100000 : Int))) + (IntKind.i64.wrap ((IntKind.i64.wrap (Int.tmod (IntKind.u64.wrap x2) (100 : Int))) * (IntKind.i64.wrap ((1 : Int) + (IntKind.i64.wrap (Int.tmod (IntKind.u64.wrap x1) (1000 : Int)))))))))) (200 : Int))) : Int) (0 : Int))) := by kernel_rfl
theorem lTimes.s1  (m : Nat) (x0 : Int) (x1 : Int) (x2 : List Int) (x3 : List Int) (x4 : Int) (x5 : Int) : lTimes.l1  (m + 1) x0 x1 x2 x3 x4 x5 =
  cond (decide (x5 < x4)) (
   test (decide ((0 : Int) ≤ x5)) (
    test (decide (x5 < ((List.length x2) : Int))) (
     cond (bne (rdEl (.int .i64) x2 (Int.toNat x5)) (IntKind.i64.wrap (x0 + (IntKind.i64.wrap (x5 * x1))))) (
      some ((.c (.v (.bool false))), [])) (
      test (decide ((0 : Int) ≤ x5)) (
       test (decide (x5 < ((List.length x3) : Int))) (
        test (decide ((0 : Int) ≤ x5)) (
         test (decide (x5 < ((List.length x2) : Int))) (
          cond (bne (rdEl (.int .i64) x3 (Int.toNat x5)) (rdEl (.int .i64) x2 (Int.toNat x5))) (
           some ((.c (.v (.bool false))), [])) (
           lTimes.l1  m x0 x1 x2 x3 x4 (IntKind.i64.wrap (x5 + (1 : Int)))))))))))) (
   cond (((List.length (rowL (timesL x0 x1 (IntKind.i64.wrap (x0 - (1 : Int)))) (9 : Int))) : Int) == (0 : Int)) (
    some ((.c (.v (.bool true))), [])) (
    some ((.c (.v (.bool false))), []))) := by kernel_rfl
theorem lTimes.run_eq  (m : Nat) (x0 : Int) (x1 : Int) (x2 : Int) : run (lTimes.cfg ) Try.f6.ntmps Try.f6.results.toList m [.code (bodyOf Try.f6)] (enter (ivA lTimes.ps (x0, x1, x2, ()))) = lTimes.go  m x0 x1 x2 := by kernel_rfl
theorem lTimes.ret  (hs : SpecsOK Try.prog (lTimes.specs ))  (x0 : Int) (x1 : Int) (x2 : Int) {m : Nat} {r : IV} (h : lTimes.go  m x0 x1 x2 = some (r, [])) : VE.Returns Try.prog 6 (ivA lTimes.ps (x0, x1, x2, ())) r :=
  returns_of_run (cfg := lTimes.cfg ) (cfgOK_of mixed tab_ok hs .nil) rfl Try.func6 (body_some (by kernel_rfl)) (Nat.le_of_ble_eq_true (by kernel_rfl)) ((lTimes.run_eq  m x0 x1 x2).trans h)
abbrev lTimes.Law : Prop := ∀ (x0 : Int) (x1 : Int) (x2 : Int), lTimes.pre (x0, x1, x2, ()) = true → VE.Returns Try.prog 6 (ivA lTimes.ps (x0, x1, x2, ())) (lTimes.res (x0, x1, x2, ()))
theorem lTimes.mkR (H : ∀ (x0 : Int) (x1 : Int) (x2 : Int), lTimes.pre (x0, x1, x2, ()) = true → VE.Returns Try.prog 6 (ivA lTimes.ps (x0, x1, x2, ())) (lTimes.res (x0, x1, x2, ()))) : SpecOK Try.prog 6 lTimes.sp :=
  specOf_ret Try.func6 (by kernel_rfl) (by kernel_rfl) fun (x : Int × Int × Int × Unit) hx => H (x.1) (x.2.1) (x.2.2.1) hx
theorem lTimes.mk  (hs : SpecsOK Try.prog (lTimes.specs ))  (H : ∀ (x0 : Int) (x1 : Int) (x2 : Int), lTimes.pre (x0, x1, x2, ()) = true → ∃ m, lTimes.go  m x0 x1 x2 = some (lTimes.res (x0, x1, x2, ()), [])) : SpecOK Try.prog 6 lTimes.sp :=
  lTimes.mkR fun x0 x1 x2 hx => (H x0 x1 x2 hx).elim fun _ hm => lTimes.ret  hs  x0 x1 x2 hm

end Go.Proofs.Ytognnacdakfekaa
