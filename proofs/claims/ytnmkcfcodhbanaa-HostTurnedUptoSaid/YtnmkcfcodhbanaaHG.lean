/-
  Steps of the bodies, from checkpoint to checkpoint (printed by wip/VE/mk2.py).
-/
import Derived.Test.YtnmkcfcodhbanaaHC
namespace Go.Proofs.Ytnmkcfcodhbanaa
open Go VE

/-! ### triage/triagelaw7.awake -/
abbrev awake.ps : List AK := []
def awake.pre : ElA awake.ps → Bool := fun (x : Unit) => true
def awake.res : ElA awake.ps → IV := fun (x : Unit) => (vb true) 
def awake.sp : ISpec := spOf awake.ps awake.pre awake.res
abbrev awake.OK : Prop := SpecOK Try.prog 9 awake.sp
noncomputable def awake.body : Code := bodyOf Try.f9
noncomputable def awake.rs : List ResultVar := Try.f9.results.toList
def awake.live : List (Nat × Live) := []
noncomputable def awake.specs  : List (Nat × (List Bool × ISpec)) := [(10, ([], may.sp)), (14, ([], has.sp)), (12, ([], same.sp)), (18, ([], copy.sp))]
noncomputable def awake.ospecs  : List (Nat × OS) := []
noncomputable def awake.cfg  : Cfg := ⟨lkp tab, lkp (awake.specs ), lkp awake.live, ⟨lkp (awake.ospecs ), [], none, false⟩⟩
noncomputable def awake.go  (m : Nat)  : R := run (awake.cfg ) 31 awake.rs m [.code awake.body] (enter (ivA awake.ps ()))
theorem awake.start  (m : Nat)  : awake.go  (m + 1)  =
  some ((.c (.v (.bool (Bool.not (mayB ((0 : Int), ((⟨#[]⟩ : ByteArray), ((0 : Int), ((⟨#[]⟩ : ByteArray), ((0 : Int), ([] : List (El TPair)))))))))))), []) := by kernel_rfl
theorem awake.run_eq  (m : Nat)  : run (awake.cfg ) Try.f9.ntmps Try.f9.results.toList m [.code (bodyOf Try.f9)] (enter (ivA awake.ps ())) = awake.go  m  := by kernel_rfl
theorem awake.ret  (hs : SpecsOK Try.prog (awake.specs ))   {m : Nat} {r : IV} (h : awake.go  m  = some (r, [])) : VE.Returns Try.prog 9 (ivA awake.ps ()) r :=
  returns_of_run (cfg := awake.cfg ) (cfgOK_of mixed tab_ok hs .nil) rfl Try.func9 (body_some (by kernel_rfl)) (Nat.le_of_ble_eq_true (by kernel_rfl)) ((awake.run_eq  m ).trans h)
abbrev awake.Law : Prop := ∀ (_ : Unit), awake.pre () = true → VE.Returns Try.prog 9 (ivA awake.ps ()) (awake.res ())
theorem awake.mkR (H : ∀ (_ : Unit), awake.pre () = true → VE.Returns Try.prog 9 (ivA awake.ps ()) (awake.res ())) : SpecOK Try.prog 9 awake.sp :=
  specOf_ret Try.func9 (by kernel_rfl) (by kernel_rfl) fun (x : Unit) hx => H () hx
theorem awake.mk  (hs : SpecsOK Try.prog (awake.specs ))  (H : ∀ (_ : Unit), awake.pre () = true → ∃ m, awake.go  m  = some (awake.res (), [])) : SpecOK Try.prog 9 awake.sp :=
  awake.mkR fun _ hx => (H () hx).elim fun _ hm => awake.ret  hs   hm

/-! ### triage/triagelaw7.HostForms -/
abbrev lForms.ps : List AK := [.d true THost, .d true THost, .d false (.sl TPair)]
def lForms.pre : ElA lForms.ps → Bool := fun (x : (El THost) × (El THost) × (List (El TPair)) × Unit) => fits THost (x.1) && (fits THost (x.2.1) && (fits (.sl TPair) (x.2.2.1) && (true)))
def lForms.res : ElA lForms.ps → IV := fun (x : (El THost) × (El THost) × (List (El TPair)) × Unit) => (fun _ _ _ => vb true) x.1 x.2.1 x.2.2.1
def lForms.sp : ISpec := spOf lForms.ps lForms.pre lForms.res
abbrev lForms.OK : Prop := SpecOK Try.prog 3 lForms.sp
noncomputable def lForms.body : Code := bodyOf Try.f3
noncomputable def lForms.rs : List ResultVar := Try.f3.results.toList
def lForms.live : List (Nat × Live) := []
noncomputable def lForms.specs  : List (Nat × (List Bool × ISpec)) := [(8, ([], light.sp)), (9, ([], awake.sp)), (10, ([], may.sp)), (11, ([], mayR.sp)), (12, ([], same.sp)), (13, ([], sameR.sp)), (14, ([], has.sp)), (15, ([], hasR.sp)), (16, ([], maySub.sp)), (17, ([], maySubR.sp)), (18, ([], copy.sp))]
noncomputable def lForms.ospecs  : List (Nat × OS) := []
noncomputable def lForms.cfg  : Cfg := ⟨lkp tab, lkp (lForms.specs ), lkp lForms.live, ⟨lkp (lForms.ospecs ), [], none, false⟩⟩
noncomputable def lForms.go  (m : Nat) (x0 : (El THost)) (x1 : (El THost)) (x2 : (List (El TPair))) : R := run (lForms.cfg ) 57 lForms.rs m [.code lForms.body] (enter (ivA lForms.ps (x0, x1, x2, ())))
theorem lForms.start  (m : Nat) (x0 : (El THost)) (x1 : (El THost)) (x2 : (List (El TPair))) : lForms.go  (m + 1) x0 x1 x2 =
  test (light.pre (x0, Unit.unit)) (
   test (light.pre (x1, Unit.unit)) (
    test (light.pre (((0 : Int), ((⟨#[]⟩ : ByteArray), ((0 : Int), ((⟨#[]⟩ : ByteArray), ((0 : Int), x2))))), Unit.unit)) (
     cond (decide ((IntKind.i64.wrap ((IntKind.i64.wrap ((lightI x0) + (lightI x1))) + (lightI ((0 : Int), ((⟨#[]⟩ : ByteArray), ((0 : Int), ((⟨#[]⟩ : ByteArray), ((0 : Int), x2)))))))) > (0 : Int))) (
      some ((.c (.v (.bool true))), [])) (
      test (may.pre (x0, Unit.unit)) (
       test (mayR.pre (x0, Unit.unit)) (
        cond ((mayB x0) == (mayB x0)) (
         test (same.pre (x0, (x1, Unit.unit))) (
          test (sameR.pre (x0, (x1, Unit.unit))) (
           cond ((sameB x0 x1) == (sameB x0 x1)) (
            test (has.pre (x0, (x2, Unit.unit))) (
             test (hasR.pre (x0, (x2, Unit.unit))) (
              cond ((hasB x0 x2) == (hasB x0 x2)) (
               test (maySub.pre (x2, Unit.unit)) (
                test (maySubR.pre (x2, Unit.unit)) (
                 cond ((maySubB x2) == (maySubB x2)) (
                  test (copy.pre (x0, Unit.unit)) (
                   test (sameR.pre (x0, (x0, Unit.unit))) (
                    cond (sameB x0 x0) (
                     some ((.c (.v (.bool true))), [])) (
                     some ((.c (.v (.bool false))), []))))) (
                  some ((.c (.v (.bool false))), []))))) (
               some ((.c (.v (.bool false))), []))))) (
            some ((.c (.v (.bool false))), []))))) (
         some ((.c (.v (.bool false))), [])))))))) := by kernel_rfl
theorem lForms.run_eq  (m : Nat) (x0 : (El THost)) (x1 : (El THost)) (x2 : (List (El TPair))) : run (lForms.cfg ) Try.f3.ntmps Try.f3.results.toList m [.code (bodyOf Try.f3)] (enter (ivA lForms.ps (x0, x1, x2, ()))) = lForms.go  m x0 x1 x2 := by kernel_rfl
theorem lForms.ret  (hs : SpecsOK Try.prog (lForms.specs ))  (x0 : (El THost)) (x1 : (El THost)) (x2 : (List (El TPair))) {m : Nat} {r : IV} (h : lForms.go  m x0 x1 x2 = some (r, [])) : VE.Returns Try.prog 3 (ivA lForms.ps (x0, x1, x2, ())) r :=
  returns_of_run (cfg := lForms.cfg ) (cfgOK_of mixed tab_ok hs .nil) rfl Try.func3 (body_some (by kernel_rfl)) (Nat.le_of_ble_eq_true (by kernel_rfl)) ((lForms.run_eq  m x0 x1 x2).trans h)
abbrev lForms.Law : Prop := ∀ (x0 : (El THost)) (x1 : (El THost)) (x2 : (List (El TPair))), lForms.pre (x0, x1, x2, ()) = true → VE.Returns Try.prog 3 (ivA lForms.ps (x0, x1, x2, ())) (lForms.res (x0, x1, x2, ()))
theorem lForms.mkR (H : ∀ (x0 : (El THost)) (x1 : (El THost)) (x2 : (List (El TPair))), lForms.pre (x0, x1, x2, ()) = true → VE.Returns Try.prog 3 (ivA lForms.ps (x0, x1, x2, ())) (lForms.res (x0, x1, x2, ()))) : SpecOK Try.prog 3 lForms.sp :=
  specOf_ret Try.func3 (by kernel_rfl) (by kernel_rfl) fun (x : (El THost) × (El THost) × (List (El TPair)) × Unit) hx => H (x.1) (x.2.1) (x.2.2.1) hx
theorem lForms.mk  (hs : SpecsOK Try.prog (lForms.specs ))  (H : ∀ (x0 : (El THost)) (x1 : (El THost)) (x2 : (List (El TPair))), lForms.pre (x0, x1, x2, ()) = true → ∃ m, lForms.go  m x0 x1 x2 = some (lForms.res (x0, x1, x2, ()), [])) : SpecOK Try.prog 3 lForms.sp :=
  lForms.mkR fun x0 x1 x2 hx => (H x0 x1 x2 hx).elim fun _ hm => lForms.ret  hs  x0 x1 x2 hm

/-! ### triage/triagelaw7.HostParts -/
abbrev lParts.ps : List AK := [.d true THost, .d false (.sl TPair), .d false (.sl TPair)]
def lParts.pre : ElA lParts.ps → Bool := fun (x : (El THost) × (List (El TPair)) × (List (El TPair)) × Unit) => fits THost (x.1) && (fits (.sl TPair) (x.2.1) && (fits (.sl TPair) (x.2.2.1) && ((fun _ l m => decide (List.length l ≤ 1073741824) && decide (List.length m ≤ 1073741824)) x.1 x.2.1 x.2.2.1 && (true))))
def lParts.res : ElA lParts.ps → IV := fun (x : (El THost) × (List (El TPair)) × (List (El TPair)) × Unit) => (fun _ _ _ => vb true) x.1 x.2.1 x.2.2.1
def lParts.sp : ISpec := spOf lParts.ps lParts.pre lParts.res
abbrev lParts.OK : Prop := SpecOK Try.prog 4 lParts.sp
noncomputable def lParts.body : Code := bodyOf Try.f4
noncomputable def lParts.rs : List ResultVar := Try.f4.results.toList
def lParts.live : List (Nat × Live) := [(7, ⟨[(1, .sl TPair), (3, .plain), (51, .sl TPair), (52, .plain), (53, .plain)], [(1, [])]⟩)]
noncomputable def lParts.specs  : List (Nat × (List Bool × ISpec)) := [(8, ([], light.sp)), (9, ([], awake.sp)), (14, ([], has.sp))]
noncomputable def lParts.ospecs  : List (Nat × OS) := []
noncomputable def lParts.cfg  : Cfg := ⟨lkp tab, lkp (lParts.specs ), lkp lParts.live, ⟨lkp (lParts.ospecs ), [], none, false⟩⟩
noncomputable def lParts.l1  (m : Nat) (x0 : List (El TPair)) (x1 : List (El TPair)) (x2 : Int) (x3 : Int) (x4 : Int) (x5 : ByteArray) (x6 : Int) (x7 : ByteArray) (x8 : Int) (x9 : List (El TPair)) : R := run (lParts.cfg ) 69 lParts.rs m ((todoR 7 lParts.body []).getD []) ⟨ofList (.c .junk) [(1, (.c (.sl TPair x0))), (3, (.c (.ref 1 0))), (51, (.c (.sl TPair x1))), (52, (.c (.v (.int .i64 x2)))), (53, (.c (.v (.int .i64 x3))))], ofList none [(1, some (.cells 24 [(.v (.int .i64 x4)), (.v (.string x5)), (.v (.int .i64 x6)), (.v (.string x7)), (.v (.int .i64 x8)), (.sl TPair x9)]))], ofList false [(1, true)]⟩
noncomputable def lParts.go  (m : Nat) (x0 : (El THost)) (x1 : (List (El TPair))) (x2 : (List (El TPair))) : R := run (lParts.cfg ) 69 lParts.rs m [.code lParts.body] (enter (ivA lParts.ps (x0, x1, x2, ())))
theorem lParts.start  (m : Nat) (x0 : (El THost)) (x1 : (List (El TPair))) (x2 : (List (El TPair))) : lParts.go  (m + 1) x0 x1 x2 =
  test (light.pre (x0, Unit.unit)) (
   test (light.pre (((0 : Int), ((⟨#[]⟩ : ByteArray), ((0 : Int), ((⟨#[]⟩ : ByteArray), ((0 : Int), x1))))), Unit.unit)) (
    test (light.pre (((0 : Int), ((⟨#[]⟩ : ByteArray), ((0 : Int), ((⟨#[]⟩ : ByteArray), ((0 : Int), x2))))), Unit.unit)) (
     cond (decide ((IntKind.i64.wrap ((IntKind.i64.wrap ((lightI x0) + (lightI ((0 : Int), ((⟨#[]⟩ : ByteArray), ((0 : Int), ((⟨#[]⟩ : ByteArray), ((0 : Int), x1)))))))) + (lightI ((0 : Int), ((⟨#[]⟩ : ByteArray), ((0 : Int), ((⟨#[]⟩ : ByteArray), ((0 : Int), x2)))))))) > (0 : Int))) (
      some ((.c (.v (.bool true))), [])) (
      test (decide (((List.length ([] : List (El TPair))) + (List.length x1)) ≤ (lim 32))) (
       test (decide (((List.length (([] : List (El TPair)) ++ x1)) + (List.length x2)) ≤ (lim 32))) (
        test (has.pre (x0, (((([] : List (El TPair)) ++ x1) ++ x2), Unit.unit))) (
         test (has.pre (x0, (x1, Unit.unit))) (
          cond (hasB x0 x1) (
           test (has.pre (x0, (x2, Unit.unit))) (
            cond (Bool.not ((hasB x0 ((([] : List (El TPair)) ++ x1) ++ x2)) == (hasB x0 x2))) (
             some ((.c (.v (.bool false))), [])) (
             test (has.pre (x0, (x0.2.2.2.2.2, Unit.unit))) (
              cond (Bool.not (hasB x0 x0.2.2.2.2.2)) (
               some ((.c (.v (.bool false))), [])) (
               test (has.pre (x0, (([] : List (El TPair)), Unit.unit))) (
                lParts.l1  m x1 x1 ((List.length x1) : Int) (0 : Int) x0.1 x0.2.1 x0.2.2.1 x0.2.2.2.1 x0.2.2.2.2.1 x0.2.2.2.2.2)))))) (
           cond (Bool.not ((hasB x0 ((([] : List (El TPair)) ++ x1) ++ x2)) == false)) (
            some ((.c (.v (.bool false))), [])) (
            test (has.pre (x0, (x0.2.2.2.2.2, Unit.unit))) (
             cond (Bool.not (hasB x0 x0.2.2.2.2.2)) (
              some ((.c (.v (.bool false))), [])) (
              test (has.pre (x0, (([] : List (El TPair)), Unit.unit))) (
               lParts.l1  m x1 x1 ((List.length x1) : Int) (0 : Int) x0.1 x0.2.1 x0.2.2.1 x0.2.2.2.1 x0.2.2.2.2.1 x0.2.2.2.2.2))))))))))))) := by kernel_rfl
theorem lParts.s1  (m : Nat) (x0 : List (El TPair)) (x1 : List (El TPair)) (x2 : Int) (x3 : Int) (x4 : Int) (x5 : ByteArray) (x6 : Int) (x7 : ByteArray) (x8 : Int) (x9 : List (El TPair)) : lParts.l1  (m + 1) x0 x1 x2 x3 x4 x5 x6 x7 x8 x9 =
  cond (decide (x3 < x2)) (
   test (decide ((0 : Int) ≤ x3)) (
    test (decide (x3 < ((List.length x1) : Int))) (
     test (has.pre ((x4, (x5, (x6, (x7, (x8, x9))))), (x0, Unit.unit))) (
      cond (hasB (x4, (x5, (x6, (x7, (x8, x9))))) x0) (
       test (has.pre ((x4, (x5, (x6, (x7, (x8, x9))))), ((((rdEl TPair x1 (Int.toNat x3))) :: ([] : List (El TPair))), Unit.unit))) (
        cond (Bool.not (hasB (x4, (x5, (x6, (x7, (x8, x9))))) (((rdEl TPair x1 (Int.toNat x3))) :: ([] : List (El TPair))))) (
         some ((.c (.v (.bool false))), [])) (
         lParts.l1  m x0 x1 x2 (IntKind.i64.wrap (x3 + (1 : Int))) x4 x5 x6 x7 x8 x9))) (
       lParts.l1  m x0 x1 x2 (IntKind.i64.wrap (x3 + (1 : Int))) x4 x5 x6 x7 x8 x9))))) (
   some ((.c (.v (.bool true))), [])) := by kernel_rfl
theorem lParts.run_eq  (m : Nat) (x0 : (El THost)) (x1 : (List (El TPair))) (x2 : (List (El TPair))) : run (lParts.cfg ) Try.f4.ntmps Try.f4.results.toList m [.code (bodyOf Try.f4)] (enter (ivA lParts.ps (x0, x1, x2, ()))) = lParts.go  m x0 x1 x2 := by kernel_rfl
theorem lParts.ret  (hs : SpecsOK Try.prog (lParts.specs ))  (x0 : (El THost)) (x1 : (List (El TPair))) (x2 : (List (El TPair))) {m : Nat} {r : IV} (h : lParts.go  m x0 x1 x2 = some (r, [])) : VE.Returns Try.prog 4 (ivA lParts.ps (x0, x1, x2, ())) r :=
  returns_of_run (cfg := lParts.cfg ) (cfgOK_of mixed tab_ok hs .nil) rfl Try.func4 (body_some (by kernel_rfl)) (Nat.le_of_ble_eq_true (by kernel_rfl)) ((lParts.run_eq  m x0 x1 x2).trans h)
abbrev lParts.Law : Prop := ∀ (x0 : (El THost)) (x1 : (List (El TPair))) (x2 : (List (El TPair))), lParts.pre (x0, x1, x2, ()) = true → VE.Returns Try.prog 4 (ivA lParts.ps (x0, x1, x2, ())) (lParts.res (x0, x1, x2, ()))
theorem lParts.mkR (H : ∀ (x0 : (El THost)) (x1 : (List (El TPair))) (x2 : (List (El TPair))), lParts.pre (x0, x1, x2, ()) = true → VE.Returns Try.prog 4 (ivA lParts.ps (x0, x1, x2, ())) (lParts.res (x0, x1, x2, ()))) : SpecOK Try.prog 4 lParts.sp :=
  specOf_ret Try.func4 (by kernel_rfl) (by kernel_rfl) fun (x : (El THost) × (List (El TPair)) × (List (El TPair)) × Unit) hx => H (x.1) (x.2.1) (x.2.2.1) hx
theorem lParts.mk  (hs : SpecsOK Try.prog (lParts.specs ))  (H : ∀ (x0 : (El THost)) (x1 : (List (El TPair))) (x2 : (List (El TPair))), lParts.pre (x0, x1, x2, ()) = true → ∃ m, lParts.go  m x0 x1 x2 = some (lParts.res (x0, x1, x2, ()), [])) : SpecOK Try.prog 4 lParts.sp :=
  lParts.mkR fun x0 x1 x2 hx => (H x0 x1 x2 hx).elim fun _ hm => lParts.ret  hs  x0 x1 x2 hm

/-! ### triage/triagelaw7.HostBounds -/
abbrev lBounds.ps : List AK := [.d false (.int .i64), .d false (.int .i64), .d false (.int .i64)]
def lBounds.pre : ElA lBounds.ps → Bool := fun (x : Int × Int × Int × Unit) => fits (.int .i64) (x.1) && (fits (.int .i64) (x.2.1) && (fits (.int .i64) (x.2.2.1) && (true)))
def lBounds.res : ElA lBounds.ps → IV := fun (x : Int × Int × Int × Unit) => (fun _ _ _ => vb true) x.1 x.2.1 x.2.2.1
def lBounds.sp : ISpec := spOf lBounds.ps lBounds.pre lBounds.res
abbrev lBounds.OK : Prop := SpecOK Try.prog 6 lBounds.sp
noncomputable def lBounds.body : Code := bodyOf Try.f6
noncomputable def lBounds.rs : List ResultVar := Try.f6.results.toList
def lBounds.live : List (Nat × Live) := [(7, ⟨[(7, .plain), (8, .plain), (9, .plain), (10, .plain), (45, .plain)], [(521, []), (1539, [.plain, .plain, .plain, .plain, .plain, .sl TPair]), (2563, [.plain, .plain, .plain, .plain, .plain, .arr 34 TPair])]⟩), (3, ⟨[(7, .plain), (8, .plain)], [(521, [])]⟩)]
noncomputable def lBounds.specs  : List (Nat × (List Bool × ISpec)) := [(10, ([], may.sp)), (9, ([], awake.sp))]
noncomputable def lBounds.ospecs  : List (Nat × OS) := []
noncomputable def lBounds.cfg  : Cfg := ⟨lkp tab, lkp (lBounds.specs ), lkp lBounds.live, ⟨lkp (lBounds.ospecs ), [], none, false⟩⟩
noncomputable def lBounds.l1  (m : Nat) (x0 : Bool) (x1 : Int) (x2 : ByteArray) (x3 : Int) (x4 : ByteArray) (x5 : Int) : R := run (lBounds.cfg ) 88 lBounds.rs m ((todoR 3 lBounds.body []).getD []) ⟨ofList (.c .junk) [(7, (.c (.ref 521 0))), (8, (.c (.v (.bool x0))))], ofList none [(521, some (.cells 24 [(.v (.int .i64 x1)), (.v (.string x2)), (.v (.int .i64 x3)), (.v (.string x4)), (.v (.int .i64 x5)), (.v (.slice none 0 0))]))], ofList false [(521, true)]⟩
noncomputable def lBounds.l2  (m : Nat) (x0 : Bool) (x1 : Int) (x2 : Int) (x3 : ByteArray) (x4 : Int) (x5 : ByteArray) (x6 : Int) (x7 : Int) (x8 : ByteArray) (x9 : Int) (x10 : ByteArray) (x11 : Int) (x12 : List (El TPair)) (x13 : Int) (x14 : ByteArray) (x15 : Int) (x16 : ByteArray) (x17 : Int) (x18 : List (El TPair)) : R := run (lBounds.cfg ) 88 lBounds.rs m ((todoR 7 lBounds.body []).getD []) ⟨ofList (.c .junk) [(7, (.c (.ref 521 0))), (8, (.c (.v (.bool x0)))), (9, (.c (.ref 1539 0))), (10, (.c (.ref 2563 0))), (45, (.c (.v (.int .i64 x1))))], ofList none [(521, some (.cells 24 [(.v (.int .i64 x2)), (.v (.string x3)), (.v (.int .i64 x4)), (.v (.string x5)), (.v (.int .i64 x6)), (.v (.slice none 0 0))])), (1539, some (.cells 24 [(.v (.int .i64 x7)), (.v (.string x8)), (.v (.int .i64 x9)), (.v (.string x10)), (.v (.int .i64 x11)), (.sl TPair x12)])), (2563, some (.cells 24 [(.v (.int .i64 x13)), (.v (.string x14)), (.v (.int .i64 x15)), (.v (.string x16)), (.v (.int .i64 x17)), (.sref 456074)])), (456074, some (.arr 34 TPair x18 false))], ofList false [(521, true), (1539, true), (2563, true), (456074, true)]⟩
noncomputable def lBounds.go  (m : Nat) (x0 : Int) (x1 : Int) (x2 : Int) : R := run (lBounds.cfg ) 88 lBounds.rs m [.code lBounds.body] (enter (ivA lBounds.ps (x0, x1, x2, ())))
theorem lBounds.start  (m : Nat) (x0 : Int) (x1 : Int) (x2 : Int) : lBounds.go  (m + 1) x0 x1 x2 =
  cond (decide (x0 ≥ (1 : Int))) (
   cond (decide (x0 ≤ (1000000 : Int))) (
    cond (decide (x1 ≥ (0 : Int))) (
     cond (decide (x1 ≤ (3 : Int))) (
      cond (decide (x2 ≥ (1 : Int))) (
       lBounds.l1  m (decide (x2 ≤ (20 : Int))) x0 (⟨#[97]⟩ : ByteArray) x1 (⟨#[]⟩ : ByteArray) x2) (
       lBounds.l1  m false x0 (⟨#[97]⟩ : ByteArray) x1 (⟨#[]⟩ : ByteArray) x2)) (
      lBounds.l1  m false x0 (⟨#[97]⟩ : ByteArray) x1 (⟨#[]⟩ : ByteArray) x2)) (
     lBounds.l1  m false x0 (⟨#[97]⟩ : ByteArray) x1 (⟨#[]⟩ : ByteArray) x2)) (
    lBounds.l1  m false x0 (⟨#[97]⟩ : ByteArray) x1 (⟨#[]⟩ : ByteArray) x2)) (
   lBounds.l1  m false x0 (⟨#[97]⟩ : ByteArray) x1 (⟨#[]⟩ : ByteArray) x2) := by kernel_rfl
theorem lBounds.s1  (m : Nat) (x0 : Bool) (x1 : Int) (x2 : ByteArray) (x3 : Int) (x4 : ByteArray) (x5 : Int) : lBounds.l1  (m + 1) x0 x1 x2 x3 x4 x5 =
  lBounds.l2  m x0 (0 : Int) x1 x2 x3 x4 x5 x1 x2 x3 x4 x5 (((⟨#[98]⟩ : ByteArray), (⟨#[120]⟩ : ByteArray)) :: (((⟨#[98]⟩ : ByteArray), (⟨#[121]⟩ : ByteArray)) :: ([] : List (El TPair)))) x1 x2 x3 x4 x5 ([] : List (El TPair)) := by kernel_rfl
theorem lBounds.s2  (m : Nat) (x0 : Bool) (x1 : Int) (x2 : Int) (x3 : ByteArray) (x4 : Int) (x5 : ByteArray) (x6 : Int) (x7 : Int) (x8 : ByteArray) (x9 : Int) (x10 : ByteArray) (x11 : Int) (x12 : List (El TPair)) (x13 : Int) (x14 : ByteArray) (x15 : Int) (x16 : ByteArray) (x17 : Int) (x18 : List (El TPair)) : lBounds.l2  (m + 1) x0 x1 x2 x3 x4 x5 x6 x7 x8 x9 x10 x11 x12 x13 x14 x15 x16 x17 x18 =
  cond (decide (x1 < (7 : Int))) (
   test (decide (((List.length x18) + (List.length (((bytesStr ((IntKind.u8.wrap (IntKind.i64.wrap ((97 : Int) + x1))) :: ([] : List Int))), (⟨#[120]⟩ : ByteArray)) :: ([] : List (El TPair))))) ≤ (lim 32))) (
    lBounds.l2  m x0 (IntKind.i64.wrap (x1 + (1 : Int))) x2 x3 x4 x5 x6 x7 x8 x9 x10 x11 x12 x13 x14 x15 x16 x17 (x18 ++ (((bytesStr ((IntKind.u8.wrap (IntKind.i64.wrap ((97 : Int) + x1))) :: ([] : List Int))), (⟨#[120]⟩ : ByteArray)) :: ([] : List (El TPair)))))) (
   test (decide ((1 : Int) ≤ ((List.length x18) : Int))) (
    test (may.pre ((x2, (x3, (x4, (x5, (x6, ([] : List (El TPair))))))), Unit.unit)) (
     cond ((mayB (x2, (x3, (x4, (x5, (x6, ([] : List (El TPair)))))))) == x0) (
      test (may.pre ((x7, (x8, (x9, (x10, (x11, x12))))), Unit.unit)) (
       cond (Bool.not (mayB (x7, (x8, (x9, (x10, (x11, x12))))))) (
        test (may.pre ((x13, (x14, (x15, (x16, (x17, x18))))), Unit.unit)) (
         cond (Bool.not (mayB (x13, (x14, (x15, (x16, (x17, x18))))))) (
          test (may.pre ((x13, (x14, (x15, (x16, (x17, (List.drop (Int.toNat (1 : Int)) (List.take (List.length x18) x18))))))), Unit.unit)) (
           cond ((mayB (x13, (x14, (x15, (x16, (x17, (List.drop (Int.toNat (1 : Int)) (List.take (List.length x18) x18)))))))) == x0) (
            some ((.c (.v (.bool true))), [])) (
            some ((.c (.v (.bool false))), [])))) (
          some ((.c (.v (.bool false))), [])))) (
        some ((.c (.v (.bool false))), [])))) (
      some ((.c (.v (.bool false))), []))))) := by kernel_rfl
theorem lBounds.run_eq  (m : Nat) (x0 : Int) (x1 : Int) (x2 : Int) : run (lBounds.cfg ) Try.f6.ntmps Try.f6.results.toList m [.code (bodyOf Try.f6)] (enter (ivA lBounds.ps (x0, x1, x2, ()))) = lBounds.go  m x0 x1 x2 := by kernel_rfl
theorem lBounds.ret  (hs : SpecsOK Try.prog (lBounds.specs ))  (x0 : Int) (x1 : Int) (x2 : Int) {m : Nat} {r : IV} (h : lBounds.go  m x0 x1 x2 = some (r, [])) : VE.Returns Try.prog 6 (ivA lBounds.ps (x0, x1, x2, ())) r :=
  returns_of_run (cfg := lBounds.cfg ) (cfgOK_of mixed tab_ok hs .nil) rfl Try.func6 (body_some (by kernel_rfl)) (Nat.le_of_ble_eq_true (by kernel_rfl)) ((lBounds.run_eq  m x0 x1 x2).trans h)
abbrev lBounds.Law : Prop := ∀ (x0 : Int) (x1 : Int) (x2 : Int), lBounds.pre (x0, x1, x2, ()) = true → VE.Returns Try.prog 6 (ivA lBounds.ps (x0, x1, x2, ())) (lBounds.res (x0, x1, x2, ()))
theorem lBounds.mkR (H : ∀ (x0 : Int) (x1 : Int) (x2 : Int), lBounds.pre (x0, x1, x2, ()) = true → VE.Returns Try.prog 6 (ivA lBounds.ps (x0, x1, x2, ())) (lBounds.res (x0, x1, x2, ()))) : SpecOK Try.prog 6 lBounds.sp :=
  specOf_ret Try.func6 (by kernel_rfl) (by kernel_rfl) fun (x : Int × Int × Int × Unit) hx => H (x.1) (x.2.1) (x.2.2.1) hx
theorem lBounds.mk  (hs : SpecsOK Try.prog (lBounds.specs ))  (H : ∀ (x0 : Int) (x1 : Int) (x2 : Int), lBounds.pre (x0, x1, x2, ()) = true → ∃ m, lBounds.go  m x0 x1 x2 = some (lBounds.res (x0, x1, x2, ()), [])) : SpecOK Try.prog 6 lBounds.sp :=
  lBounds.mkR fun x0 x1 x2 hx => (H x0 x1 x2 hx).elim fun _ hm => lBounds.ret  hs  x0 x1 x2 hm

end Go.Proofs.Ytnmkcfcodhbanaa
