/-
  Steps of the bodies, from checkpoint to checkpoint (printed by wip/VE/mk2.py).
-/
import Derived.Test.YtdoilggfajngiaaSF
namespace Go.Proofs.Ytdoilggfajngiaa
open Go VE

/-! ### triage/triagelaw16.awake -/
abbrev awakeS.ps : List AK := []
def awakeS.pre : ElA awakeS.ps → Bool := fun (x : Unit) => true
def awakeS.res : ElA awakeS.ps → IV := fun (x : Unit) => (vb true) 
def awakeS.sp : ISpec := spOf awakeS.ps awakeS.pre awakeS.res
abbrev awakeS.OK : Prop := SpecOK Try.prog 9 awakeS.sp
noncomputable def awakeS.body : Code := bodyOf Try.f9
noncomputable def awakeS.rs : List ResultVar := Try.f9.results.toList
def awakeS.live : List (Nat × Live) := []
noncomputable def awakeS.specs  : List (Nat × (List Bool × ISpec)) := [(15, ([], newS.sp)), (11, ([], free.sp)), (12, ([], outs.sp)), (10, ([], members.sp)), (16, ([], mayS.sp)), (19, ([], find.sp))]
noncomputable def awakeS.ospecs  : List (Nat × OS) := []
noncomputable def awakeS.cfg  : Cfg := ⟨lkp tab, lkp (awakeS.specs ), lkp awakeS.live, ⟨lkp (awakeS.ospecs ), [], none, false, []⟩⟩
noncomputable def awakeS.go  (m : Nat)  : R := run (awakeS.cfg ) 43 awakeS.rs m [.code awakeS.body] (enter (ivA awakeS.ps ()))
theorem awakeS.start  (m : Nat)  : awakeS.go  (m + 1)  =
  some ((.c (.v (.bool ((ixOf (idIs (1 : Int)) ((((newB ((1 : Int), ((⟨#[97]⟩ : ByteArray), ((0 : Int), ((⟨#[]⟩ : ByteArray), ((1 : Int), ([] : List (El TPair))))))) (7 : Int))).1, ((((newB ((1 : Int), ((⟨#[97]⟩ : ByteArray), ((0 : Int), ((⟨#[]⟩ : ByteArray), ((1 : Int), ([] : List (El TPair))))))) (7 : Int))).2).1, (((((newB ((1 : Int), ((⟨#[97]⟩ : ByteArray), ((0 : Int), ((⟨#[]⟩ : ByteArray), ((1 : Int), ([] : List (El TPair))))))) (7 : Int))).2).2).1, ((((((newB ((1 : Int), ((⟨#[97]⟩ : ByteArray), ((0 : Int), ((⟨#[]⟩ : ByteArray), ((1 : Int), ([] : List (El TPair))))))) (7 : Int))).2).2).2).1, ((true, (((((((newB ((1 : Int), ((⟨#[97]⟩ : ByteArray), ((0 : Int), ((⟨#[]⟩ : ByteArray), ((1 : Int), ([] : List (El TPair))))))) (7 : Int))).2).2).2).2).1).2), ((((((newB ((1 : Int), ((⟨#[97]⟩ : ByteArray), ((0 : Int), ((⟨#[]⟩ : ByteArray), ((1 : Int), ([] : List (El TPair))))))) (7 : Int))).2).2).2).2).2))))) :: ([] : List (El TStatus)))) == (0 : Int))))), []) := by kernel_rfl
theorem awakeS.run_eq  (m : Nat)  : run (awakeS.cfg ) Try.f9.ntmps Try.f9.results.toList m [.code (bodyOf Try.f9)] (enter (ivA awakeS.ps ())) = awakeS.go  m  := by kernel_rfl
theorem awakeS.ret  (hs : SpecsOK Try.prog (awakeS.specs ))   {m : Nat} {r : IV} (h : awakeS.go  m  = some (r, [])) : VE.Returns Try.prog 9 (ivA awakeS.ps ()) r :=
  returns_of_run (cfg := awakeS.cfg ) (cfgOK_of mixed tab_ok hs .nil) rfl Try.func9 (body_some (by kernel_rfl)) (Nat.le_of_ble_eq_true (by kernel_rfl)) ((awakeS.run_eq  m ).trans h)
abbrev awakeS.Law : Prop := ∀ (_ : Unit), awakeS.pre () = true → VE.Returns Try.prog 9 (ivA awakeS.ps ()) (awakeS.res ())
theorem awakeS.mkR (H : ∀ (_ : Unit), awakeS.pre () = true → VE.Returns Try.prog 9 (ivA awakeS.ps ()) (awakeS.res ())) : SpecOK Try.prog 9 awakeS.sp :=
  specOf_ret Try.func9 (by kernel_rfl) (by kernel_rfl) fun (x : Unit) hx => H () hx
theorem awakeS.mk  (hs : SpecsOK Try.prog (awakeS.specs ))  (H : ∀ (_ : Unit), awakeS.pre () = true → ∃ m, awakeS.go  m  = some (awakeS.res (), [])) : SpecOK Try.prog 9 awakeS.sp :=
  awakeS.mkR fun _ hx => (H () hx).elim fun _ hm => awakeS.ret  hs   hm

/-! ### triage/triagelaw16.StateFree -/
abbrev lFree.ps : List AK := [.d false (.sl TStatus)]
def lFree.pre : ElA lFree.ps → Bool := fun (x : (List (El TStatus)) × Unit) => fits (.sl TStatus) (x.1) && (true)
def lFree.res : ElA lFree.ps → IV := fun (x : (List (El TStatus)) × Unit) => (fun _ => vb true) x.1
def lFree.sp : ISpec := spOf lFree.ps lFree.pre lFree.res
abbrev lFree.OK : Prop := SpecOK Try.prog 3 lFree.sp
noncomputable def lFree.body : Code := bodyOf Try.f3
noncomputable def lFree.rs : List ResultVar := Try.f3.results.toList
def lFree.live : List (Nat × Live) := [(16, ⟨[(0, .sl TStatus), (3, .sl TStatus), (4, .plain), (5, .plain), (6, .plain), (39, .sl TStatus), (40, .plain), (41, .plain)], []⟩), (6, ⟨[(0, .sl TStatus), (3, .sl TStatus), (4, .plain), (5, .plain), (6, .plain), (17, .sl TStatus), (18, .plain), (19, .plain)], []⟩)]
noncomputable def lFree.specs  : List (Nat × (List Bool × ISpec)) := [(8, ([], lightS16.sp)), (9, ([], awakeS.sp)), (10, ([], members.sp)), (11, ([], free.sp)), (12, ([], outs.sp)), (13, ([], sameSR.sp))]
noncomputable def lFree.ospecs  : List (Nat × OS) := []
noncomputable def lFree.cfg  : Cfg := ⟨lkp tab, lkp (lFree.specs ), lkp lFree.live, ⟨lkp (lFree.ospecs ), [], none, false, []⟩⟩
noncomputable def lFree.l1  (m : Nat) (x0 : List (El TStatus)) (x1 : List (El TStatus)) (x2 : Int) (x3 : Int) (x4 : Int) (x5 : List (El TStatus)) (x6 : Int) (x7 : Int) : R := run (lFree.cfg ) 89 lFree.rs m ((todoR 6 lFree.body []).getD []) ⟨ofList (.c .junk) [(0, (.c (.sl TStatus x0))), (3, (.c (.sl TStatus x1))), (4, (.c (.v (.int .i64 x2)))), (5, (.c (.v (.int .i64 x3)))), (6, (.c (.v (.int .i64 x4)))), (17, (.c (.sl TStatus x5))), (18, (.c (.v (.int .i64 x6)))), (19, (.c (.v (.int .i64 x7))))], ofList none [], ofList false []⟩
noncomputable def lFree.l2  (m : Nat) (x0 : List (El TStatus)) (x1 : List (El TStatus)) (x2 : Int) (x3 : Int) (x4 : Int) (x5 : List (El TStatus)) (x6 : Int) (x7 : Int) : R := run (lFree.cfg ) 89 lFree.rs m ((todoR 16 lFree.body []).getD []) ⟨ofList (.c .junk) [(0, (.c (.sl TStatus x0))), (3, (.c (.sl TStatus x1))), (4, (.c (.v (.int .i64 x2)))), (5, (.c (.v (.int .i64 x3)))), (6, (.c (.v (.int .i64 x4)))), (39, (.c (.sl TStatus x5))), (40, (.c (.v (.int .i64 x6)))), (41, (.c (.v (.int .i64 x7))))], ofList none [], ofList false []⟩
noncomputable def lFree.go  (m : Nat) (x0 : (List (El TStatus))) : R := run (lFree.cfg ) 89 lFree.rs m [.code lFree.body] (enter (ivA lFree.ps (x0, ())))
theorem lFree.start  (m : Nat) (x0 : (List (El TStatus))) : lFree.go  (m + 1) x0 =
  test (lightS16.pre (x0, Unit.unit)) (
   cond (decide ((lightL x0) > (0 : Int))) (
    some ((.c (.v (.bool true))), [])) (
    test (members.pre (x0, Unit.unit)) (
     lFree.l1  m x0 (List.filter memB x0) (0 : Int) (0 : Int) (0 : Int) x0 ((List.length x0) : Int) (0 : Int)))) := by kernel_rfl
theorem lFree.s1  (m : Nat) (x0 : List (El TStatus)) (x1 : List (El TStatus)) (x2 : Int) (x3 : Int) (x4 : Int) (x5 : List (El TStatus)) (x6 : Int) (x7 : Int) : lFree.l1  (m + 1) x0 x1 x2 x3 x4 x5 x6 x7 =
  cond (decide (x7 < x6)) (
   test (decide ((0 : Int) ≤ x7)) (
    test (decide (x7 < ((List.length x5) : Int))) (
     cond (((((((rdEl TStatus x5 (Int.toNat x7))).2).2).2).2).2).1 (
      test (free.pre (((rdEl TStatus x5 (Int.toNat x7))), Unit.unit)) (
       cond (freeB ((rdEl TStatus x5 (Int.toNat x7)))) (
        cond (((((((rdEl TStatus x5 (Int.toNat x7))).2).2).2).2).2).1 (
         some ((.c (.v (.bool false))), [])) (
         cond (((((((rdEl TStatus x5 (Int.toNat x7))).2).2).2).2).1).1 (
          some ((.c (.v (.bool false))), [])) (
          lFree.l1  m x0 x1 (IntKind.i64.wrap (x2 + (1 : Int))) (IntKind.i64.wrap (x3 + (1 : Int))) x4 x5 x6 (IntKind.i64.wrap (x7 + (1 : Int)))))) (
        lFree.l1  m x0 x1 x2 (IntKind.i64.wrap (x3 + (1 : Int))) x4 x5 x6 (IntKind.i64.wrap (x7 + (1 : Int)))))) (
      test (free.pre (((rdEl TStatus x5 (Int.toNat x7))), Unit.unit)) (
       cond (freeB ((rdEl TStatus x5 (Int.toNat x7)))) (
        cond (((((((rdEl TStatus x5 (Int.toNat x7))).2).2).2).2).2).1 (
         some ((.c (.v (.bool false))), [])) (
         cond (((((((rdEl TStatus x5 (Int.toNat x7))).2).2).2).2).1).1 (
          some ((.c (.v (.bool false))), [])) (
          lFree.l1  m x0 x1 (IntKind.i64.wrap (x2 + (1 : Int))) x3 x4 x5 x6 (IntKind.i64.wrap (x7 + (1 : Int)))))) (
        lFree.l1  m x0 x1 x2 x3 x4 x5 x6 (IntKind.i64.wrap (x7 + (1 : Int))))))))) (
   lFree.l2  m x0 x1 x2 x3 x4 x1 ((List.length x1) : Int) (0 : Int)) := by kernel_rfl
theorem lFree.s2  (m : Nat) (x0 : List (El TStatus)) (x1 : List (El TStatus)) (x2 : Int) (x3 : Int) (x4 : Int) (x5 : List (El TStatus)) (x6 : Int) (x7 : Int) : lFree.l2  (m + 1) x0 x1 x2 x3 x4 x5 x6 x7 =
  cond (decide (x7 < x6)) (
   test (decide ((0 : Int) ≤ x7)) (
    test (decide (x7 < ((List.length x5) : Int))) (
     cond (((((((rdEl TStatus x5 (Int.toNat x7))).2).2).2).2).2).1 (
      some ((.c (.v (.bool false))), [])) (
      cond (((((((rdEl TStatus x5 (Int.toNat x7))).2).2).2).2).1).1 (
       lFree.l2  m x0 x1 x2 x3 (IntKind.i64.wrap (x4 + (1 : Int))) x5 x6 (IntKind.i64.wrap (x7 + (1 : Int)))) (
       lFree.l2  m x0 x1 x2 x3 x4 x5 x6 (IntKind.i64.wrap (x7 + (1 : Int)))))))) (
   cond ((IntKind.i64.wrap (((List.length x1) : Int) + x3)) == ((List.length x0) : Int)) (
    cond (decide ((IntKind.i64.wrap (x2 + x4)) ≤ ((List.length x1) : Int))) (
     test (outs.pre (x0, Unit.unit)) (
      cond (x4 == ((List.length (List.filter outB x0)) : Int)) (
       test (outs.pre (x1, Unit.unit)) (
        cond (((List.length (List.filter outB x1)) : Int) == x4) (
         test (members.pre (x1, Unit.unit)) (
          test (sameSR.pre ((List.filter memB x1), (x1, Unit.unit))) (
           cond (sameSB (List.filter memB x1) x1) (
            some ((.c (.v (.bool true))), [])) (
            some ((.c (.v (.bool false))), []))))) (
         some ((.c (.v (.bool false))), [])))) (
       some ((.c (.v (.bool false))), [])))) (
     some ((.c (.v (.bool false))), []))) (
    some ((.c (.v (.bool false))), []))) := by kernel_rfl
theorem lFree.run_eq  (m : Nat) (x0 : (List (El TStatus))) : run (lFree.cfg ) Try.f3.ntmps Try.f3.results.toList m [.code (bodyOf Try.f3)] (enter (ivA lFree.ps (x0, ()))) = lFree.go  m x0 := by kernel_rfl
theorem lFree.ret  (hs : SpecsOK Try.prog (lFree.specs ))  (x0 : (List (El TStatus))) {m : Nat} {r : IV} (h : lFree.go  m x0 = some (r, [])) : VE.Returns Try.prog 3 (ivA lFree.ps (x0, ())) r :=
  returns_of_run (cfg := lFree.cfg ) (cfgOK_of mixed tab_ok hs .nil) rfl Try.func3 (body_some (by kernel_rfl)) (Nat.le_of_ble_eq_true (by kernel_rfl)) ((lFree.run_eq  m x0).trans h)
abbrev lFree.Law : Prop := ∀ (x0 : (List (El TStatus))), lFree.pre (x0, ()) = true → VE.Returns Try.prog 3 (ivA lFree.ps (x0, ())) (lFree.res (x0, ()))
theorem lFree.mkR (H : ∀ (x0 : (List (El TStatus))), lFree.pre (x0, ()) = true → VE.Returns Try.prog 3 (ivA lFree.ps (x0, ())) (lFree.res (x0, ()))) : SpecOK Try.prog 3 lFree.sp :=
  specOf_ret Try.func3 (by kernel_rfl) (by kernel_rfl) fun (x : (List (El TStatus)) × Unit) hx => H (x.1) hx
theorem lFree.mk  (hs : SpecsOK Try.prog (lFree.specs ))  (H : ∀ (x0 : (List (El TStatus))), lFree.pre (x0, ()) = true → ∃ m, lFree.go  m x0 = some (lFree.res (x0, ()), [])) : SpecOK Try.prog 3 lFree.sp :=
  lFree.mkR fun x0 hx => (H x0 hx).elim fun _ hm => lFree.ret  hs  x0 hm

/-! ### triage/triagelaw16.StateNew -/
abbrev lNew.ps : List AK := [.d true THost, .d false (.int .i64)]
def lNew.pre : ElA lNew.ps → Bool := fun (x : (El THost) × Int × Unit) => fits THost (x.1) && (fits (.int .i64) (x.2.1) && (true))
def lNew.res : ElA lNew.ps → IV := fun (x : (El THost) × Int × Unit) => (fun _ _ => vb true) x.1 x.2.1
def lNew.sp : ISpec := spOf lNew.ps lNew.pre lNew.res
abbrev lNew.OK : Prop := SpecOK Try.prog 4 lNew.sp
noncomputable def lNew.body : Code := bodyOf Try.f4
noncomputable def lNew.rs : List ResultVar := Try.f4.results.toList
def lNew.live : List (Nat × Live) := []
noncomputable def lNew.specs  : List (Nat × (List Bool × ISpec)) := [(14, ([], light.sp)), (9, ([], awakeS.sp)), (15, ([], newS.sp)), (11, ([], free.sp)), (16, ([], mayS.sp)), (17, ([], mayR.sp))]
noncomputable def lNew.ospecs  : List (Nat × OS) := []
noncomputable def lNew.cfg  : Cfg := ⟨lkp tab, lkp (lNew.specs ), lkp lNew.live, ⟨lkp (lNew.ospecs ), [], none, false, []⟩⟩
noncomputable def lNew.go  (m : Nat) (x0 : (El THost)) (x1 : Int) : R := run (lNew.cfg ) 58 lNew.rs m [.code lNew.body] (enter (ivA lNew.ps (x0, x1, ())))
theorem lNew.start  (m : Nat) (x0 : (El THost)) (x1 : Int) : lNew.go  (m + 1) x0 x1 =
  test (light.pre (x0, Unit.unit)) (
   cond (decide ((lightI x0) > (0 : Int))) (
    some ((.c (.v (.bool true))), [])) (
    test (newS.pre (x0, (x1, Unit.unit))) (
     test (free.pre (((newB x0 x1)), Unit.unit)) (
      test (mayS.pre ((((newB x0 x1)) :: ([] : List (El TStatus))), Unit.unit)) (
       test (mayR.pre (x0, Unit.unit)) (
        cond ((maySB (((newB x0 x1)) :: ([] : List (El TStatus)))) == (mayB x0)) (
         cond (decide ((((((((((newB x0 x1)).2).2).2).2).2).2).2).1 ≥ (0 : Int))) (
          cond (decide ((((((((((newB x0 x1)).2).2).2).2).2).2).2).1 ≤ (4611686018427387904 : Int))) (
           some ((.c (.v (.bool true))), [])) (
           some ((.c (.v (.bool false))), []))) (
          some ((.c (.v (.bool false))), []))) (
         some ((.c (.v (.bool false))), [])))))))) := by kernel_rfl
theorem lNew.run_eq  (m : Nat) (x0 : (El THost)) (x1 : Int) : run (lNew.cfg ) Try.f4.ntmps Try.f4.results.toList m [.code (bodyOf Try.f4)] (enter (ivA lNew.ps (x0, x1, ()))) = lNew.go  m x0 x1 := by kernel_rfl
theorem lNew.ret  (hs : SpecsOK Try.prog (lNew.specs ))  (x0 : (El THost)) (x1 : Int) {m : Nat} {r : IV} (h : lNew.go  m x0 x1 = some (r, [])) : VE.Returns Try.prog 4 (ivA lNew.ps (x0, x1, ())) r :=
  returns_of_run (cfg := lNew.cfg ) (cfgOK_of mixed tab_ok hs .nil) rfl Try.func4 (body_some (by kernel_rfl)) (Nat.le_of_ble_eq_true (by kernel_rfl)) ((lNew.run_eq  m x0 x1).trans h)
abbrev lNew.Law : Prop := ∀ (x0 : (El THost)) (x1 : Int), lNew.pre (x0, x1, ()) = true → VE.Returns Try.prog 4 (ivA lNew.ps (x0, x1, ())) (lNew.res (x0, x1, ()))
theorem lNew.mkR (H : ∀ (x0 : (El THost)) (x1 : Int), lNew.pre (x0, x1, ()) = true → VE.Returns Try.prog 4 (ivA lNew.ps (x0, x1, ())) (lNew.res (x0, x1, ()))) : SpecOK Try.prog 4 lNew.sp :=
  specOf_ret Try.func4 (by kernel_rfl) (by kernel_rfl) fun (x : (El THost) × Int × Unit) hx => H (x.1) (x.2.1) hx
theorem lNew.mk  (hs : SpecsOK Try.prog (lNew.specs ))  (H : ∀ (x0 : (El THost)) (x1 : Int), lNew.pre (x0, x1, ()) = true → ∃ m, lNew.go  m x0 x1 = some (lNew.res (x0, x1, ()), [])) : SpecOK Try.prog 4 lNew.sp :=
  lNew.mkR fun x0 x1 hx => (H x0 x1 hx).elim fun _ hm => lNew.ret  hs  x0 x1 hm

end Go.Proofs.Ytdoilggfajngiaa
