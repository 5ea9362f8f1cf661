/-
  Steps of the bodies, from checkpoint to checkpoint (printed by wip/VE/mk2.py).
-/
import Derived.Test.YtgocadoemofepaaRM
namespace Go.Proofs.Ytgocadoemofepaa
open Go VE

/-! ### triage/triagelaw21.RoundFair -/
abbrev lFair.ps : List AK := [.d false (.sl (.int .i64)), .d false (.sl (.int .i64))]
def lFair.pre : ElA lFair.ps → Bool := fun (x : (List Int) × (List Int) × Unit) => fits (.sl (.int .i64)) (x.1) && (fits (.sl (.int .i64)) (x.2.1) && (true))
def lFair.res : ElA lFair.ps → IV := fun (x : (List Int) × (List Int) × Unit) => (fun _ _ => vb true) x.1 x.2.1
def lFair.sp : ISpec := spOf lFair.ps lFair.pre lFair.res
abbrev lFair.OK : Prop := SpecOK Try.prog 4 lFair.sp
noncomputable def lFair.body : Code := bodyOf Try.f4
noncomputable def lFair.rs : List ResultVar := Try.f4.results.toList
def lFair.live : List (Nat × Live) := [(37, ⟨[(5, .sl TShare), (6, .plain), (12, .plain), (18, .sl TShare), (76, .plain), (111, .sl TShare), (112, .plain), (113, .plain)], [(109060096, [.sl TShare, .arr 3 (.int .i64)])]⟩), (30, ⟨[(5, .sl TShare), (6, .plain), (12, .plain), (13, .plain), (76, .plain), (95, .sl TShare), (96, .plain), (97, .plain)], [(10753, []), (109060096, [.sl TShare, .arr 3 (.int .i64)])]⟩), (23, ⟨[(5, .sl TShare), (6, .plain), (12, .plain), (13, .plain), (76, .plain), (79, .plain), (80, .plain)], [(10753, []), (109060096, [.sl TShare, .arr 3 (.int .i64)])]⟩), (20, ⟨[(5, .sl TShare), (6, .plain), (12, .plain), (76, .plain)], [(109060096, [.sl TShare, .arr 3 (.int .i64)])]⟩), (9, ⟨[(0, .sl (.int .i64)), (1, .sl (.int .i64)), (5, .arr 39 TShare), (6, .plain), (7, .plain), (8, .plain), (37, .sl (.int .i64)), (38, .plain), (39, .plain), (46, .sl (.int .i64)), (47, .plain), (48, .plain)], []⟩), (6, ⟨[(0, .sl (.int .i64)), (1, .sl (.int .i64)), (5, .arr 39 TShare), (6, .plain), (37, .sl (.int .i64)), (38, .plain), (39, .plain)], []⟩)]
noncomputable def lFair.specs  : List (Nat × (List Bool × ISpec)) := [(8, ([], awake.sp))]
noncomputable def lFair.ospecs  : List (Nat × OS) := [(9, ⟨[], [], new.sp⟩), (10, ⟨[some (.obj [.sl TShare, .arr 3 (.int .i64)])], [], nextW.sp⟩), (13, ⟨[some (.obj [.sl TShare, .arr 3 (.int .i64)])], [], turns.sp⟩)]
noncomputable def lFair.cfg  : Cfg := ⟨lkp tab, lkp (lFair.specs ), lkp lFair.live, ⟨lkp (lFair.ospecs ), [], none, false⟩⟩
noncomputable def lFair.l1  (m : Nat) (x0 : List Int) (x1 : List Int) (x2 : Int) (x3 : List Int) (x4 : Int) (x5 : Int) (x6 : List (El TShare)) : R := run (lFair.cfg ) 145 lFair.rs m ((todoR 6 lFair.body []).getD []) ⟨ofList (.c .junk) [(0, (.c (.sl (.int .i64) x0))), (1, (.c (.sl (.int .i64) x1))), (5, (.c (.sref 766))), (6, (.c (.v (.int .i64 x2)))), (37, (.c (.sl (.int .i64) x3))), (38, (.c (.v (.int .i64 x4)))), (39, (.c (.v (.int .i64 x5))))], ofList none [(766, some (.arr 39 TShare x6 false))], ofList false [(766, true)]⟩
noncomputable def lFair.l2  (m : Nat) (x0 : List Int) (x1 : List Int) (x2 : Int) (x3 : Int) (x4 : Int) (x5 : List Int) (x6 : Int) (x7 : Int) (x8 : List Int) (x9 : Int) (x10 : Int) (x11 : List (El TShare)) : R := run (lFair.cfg ) 145 lFair.rs m ((todoR 9 lFair.body []).getD []) ⟨ofList (.c .junk) [(0, (.c (.sl (.int .i64) x0))), (1, (.c (.sl (.int .i64) x1))), (5, (.c (.sref 766))), (6, (.c (.v (.int .i64 x2)))), (7, (.c (.v (.int .i64 x3)))), (8, (.c (.v (.int .i64 x4)))), (37, (.c (.sl (.int .i64) x5))), (38, (.c (.v (.int .i64 x6)))), (39, (.c (.v (.int .i64 x7)))), (46, (.c (.sl (.int .i64) x8))), (47, (.c (.v (.int .i64 x9)))), (48, (.c (.v (.int .i64 x10))))], ofList none [(766, some (.arr 39 TShare x11 false))], ofList false [(766, true)]⟩
noncomputable def lFair.l3  (m : Nat) (x0 : List (El TShare)) (x1 : Int) (x2 : Int) (x3 : List (El TShare)) (x4 : List Int) : R := run (lFair.cfg ) 145 lFair.rs m ((todoR 20 lFair.body []).getD []) ⟨ofList (.c .junk) [(5, (.c (.sl TShare x0))), (6, (.c (.v (.int .i64 x1)))), (12, (.c (.ref 109060096 0))), (76, (.c (.v (.int .i64 x2))))], ofList none [(109060096, some (.cells 47 [(.sl TShare x3), (.sref 13959820290)])), (13959820290, some (.arr 3 (.int .i64) x4 false))], ofList false [(109060096, true), (13959820290, true)]⟩
noncomputable def lFair.l4  (m : Nat) (x0 : List (El TShare)) (x1 : Int) (x2 : Int) (x3 : Int) (x4 : Int) (x5 : List (Int × Int × Nat)) (x6 : Nat) (x7 : List (El TShare)) (x8 : List Int) : R := run (lFair.cfg ) 145 lFair.rs m ((todoR 23 lFair.body []).getD []) ⟨ofList (.c .junk) [(5, (.c (.sl TShare x0))), (6, (.c (.v (.int .i64 x1)))), (12, (.c (.ref 109060096 0))), (13, (.c (.mref 10753))), (76, (.c (.v (.int .i64 x2)))), (79, (.c (.v (.int .i64 x3)))), (80, (.c (.v (.int .i64 x4))))], ofList none [(10753, some (.map (.int .i64) (.int .i64) x5 x6)), (109060096, some (.cells 47 [(.sl TShare x7), (.sref 13959820290)])), (13959820290, some (.arr 3 (.int .i64) x8 false))], ofList false [(10753, true), (109060096, true), (13959820290, true)]⟩
noncomputable def lFair.l5  (m : Nat) (x0 : List (El TShare)) (x1 : Int) (x2 : Int) (x3 : List (El TShare)) (x4 : Int) (x5 : Int) (x6 : List (Int × Int × Nat)) (x7 : Nat) (x8 : List (El TShare)) (x9 : List Int) : R := run (lFair.cfg ) 145 lFair.rs m ((todoR 30 lFair.body []).getD []) ⟨ofList (.c .junk) [(5, (.c (.sl TShare x0))), (6, (.c (.v (.int .i64 x1)))), (12, (.c (.ref 109060096 0))), (13, (.c (.mref 10753))), (76, (.c (.v (.int .i64 x2)))), (95, (.c (.sl TShare x3))), (96, (.c (.v (.int .i64 x4)))), (97, (.c (.v (.int .i64 x5))))], ofList none [(10753, some (.map (.int .i64) (.int .i64) x6 x7)), (109060096, some (.cells 47 [(.sl TShare x8), (.sref 13959820290)])), (13959820290, some (.arr 3 (.int .i64) x9 false))], ofList false [(10753, true), (109060096, true), (13959820290, true)]⟩
noncomputable def lFair.l6  (m : Nat) (x0 : List (El TShare)) (x1 : Int) (x2 : List (El TShare)) (x3 : Int) (x4 : List (El TShare)) (x5 : Int) (x6 : Int) (x7 : List (El TShare)) (x8 : List Int) : R := run (lFair.cfg ) 145 lFair.rs m ((todoR 37 lFair.body []).getD []) ⟨ofList (.c .junk) [(5, (.c (.sl TShare x0))), (6, (.c (.v (.int .i64 x1)))), (12, (.c (.ref 109060096 0))), (18, (.c (.sl TShare x2))), (76, (.c (.v (.int .i64 x3)))), (111, (.c (.sl TShare x4))), (112, (.c (.v (.int .i64 x5)))), (113, (.c (.v (.int .i64 x6))))], ofList none [(109060096, some (.cells 47 [(.sl TShare x7), (.sref 13959820290)])), (13959820290, some (.arr 3 (.int .i64) x8 false))], ofList false [(109060096, true), (13959820290, true)]⟩
noncomputable def lFair.go  (m : Nat) (x0 : (List Int)) (x1 : (List Int)) : R := run (lFair.cfg ) 145 lFair.rs m [.code lFair.body] (enter (ivA lFair.ps (x0, x1, ())))
theorem lFair.start  (m : Nat) (x0 : (List Int)) (x1 : (List Int)) : lFair.go  (m + 1) x0 x1 =
  cond (decide (((List.length x0) : Int) < (1 : Int))) (
   some ((.c (.v (.bool true))), [])) (
   cond (decide (((List.length x0) : Int) > (12 : Int))) (
    some ((.c (.v (.bool true))), [])) (
    cond (decide (((List.length x1) : Int) < ((List.length x0) : Int))) (
     some ((.c (.v (.bool true))), [])) (
     lFair.l1  m x0 x1 (0 : Int) x0 ((List.length x0) : Int) (0 : Int) ([] : List (El TShare))))) := by kernel_rfl
theorem lFair.s1  (m : Nat) (x0 : List Int) (x1 : List Int) (x2 : Int) (x3 : List Int) (x4 : Int) (x5 : Int) (x6 : List (El TShare)) : lFair.l1  (m + 1) x0 x1 x2 x3 x4 x5 x6 =
  cond (decide (x5 < x4)) (
   test (decide ((0 : Int) ≤ x5)) (
    test (decide (x5 < ((List.length x3) : Int))) (
     test (decide ((0 : Int) ≤ x5)) (
      test (decide (x5 ≤ ((List.length x0) : Int))) (
       lFair.l2  m x0 x1 x2 x5 (rdEl (.int .i64) x3 (Int.toNat x5)) x3 x4 x5 (List.drop 0 (List.take (Int.toNat x5) x0)) ((List.length (List.drop 0 (List.take (Int.toNat x5) x0))) : Int) (0 : Int) x6))))) (
   lFair.l3  m x6 x2 (0 : Int) ([] : List (El TShare)) ([] : List Int)) := by kernel_rfl
theorem lFair.s2  (m : Nat) (x0 : List Int) (x1 : List Int) (x2 : Int) (x3 : Int) (x4 : Int) (x5 : List Int) (x6 : Int) (x7 : Int) (x8 : List Int) (x9 : Int) (x10 : Int) (x11 : List (El TShare)) : lFair.l2  (m + 1) x0 x1 x2 x3 x4 x5 x6 x7 x8 x9 x10 x11 =
  cond (decide (x10 < x9)) (
   test (decide ((0 : Int) ≤ x10)) (
    test (decide (x10 < ((List.length x8) : Int))) (
     cond (x4 == (rdEl (.int .i64) x8 (Int.toNat x10))) (
      some ((.c (.v (.bool true))), [])) (
      lFair.l2  m x0 x1 x2 x3 x4 x5 x6 x7 x8 x9 (IntKind.i64.wrap (x10 + (1 : Int))) x11)))) (
   test (decide ((0 : Int) ≤ x3)) (
    test (decide (x3 < ((List.length x1) : Int))) (
     test (decide (((List.length x11) + (List.length ((x4, (IntKind.i64.wrap ((1 : Int) + (IntKind.i64.wrap (Int.tmod (IntKind.u64.wrap (rdEl (.int .i64) x1 (Int.toNat x3))) (20 : Int)))))) :: ([] : List (El TShare))))) ≤ (lim 16))) (
      lFair.l1  m x0 x1 (IntKind.i64.wrap (x2 + (IntKind.i64.wrap ((1 : Int) + (IntKind.i64.wrap (Int.tmod (IntKind.u64.wrap (rdEl (.int .i64) x1 (Int.toNat x3))) (20 : Int))))))) x5 x6 (IntKind.i64.wrap (x7 + (1 : Int))) (x11 ++ ((x4, (IntKind.i64.wrap ((1 : Int) + (IntKind.i64.wrap (Int.tmod (IntKind.u64.wrap (rdEl (.int .i64) x1 (Int.toNat x3))) (20 : Int)))))) :: ([] : List (El TShare)))))))) := by kernel_rfl
theorem lFair.s3  (m : Nat) (x0 : List (El TShare)) (x1 : Int) (x2 : Int) (x3 : List (El TShare)) (x4 : List Int) : lFair.l3  (m + 1) x0 x1 x2 x3 x4 =
  cond (decide (x2 < (2 : Int))) (
   lFair.l4  m x0 x1 x2 x1 (0 : Int) [] 0 x3 x4) (
   some ((.c (.v (.bool true))), [])) := by kernel_rfl
theorem lFair.s4  (m : Nat) (x0 : List (El TShare)) (x1 : Int) (x2 : Int) (x3 : Int) (x4 : Int) (x5 : List (Int × Int × Nat)) (x6 : Nat) (x7 : List (El TShare)) (x8 : List Int) : lFair.l4  (m + 1) x0 x1 x2 x3 x4 x5 x6 x7 x8 =
  cond (decide (x4 < x3)) (
   test (nextW.pre ((x7, x8), (x0, Unit.unit))) (
    cond (Bool.not (mayRow x0)) (
     some ((.c (.v (.bool false))), [])) (
     lFair.l4  m x0 x1 x2 x3 (IntKind.i64.wrap (x4 + (1 : Int))) (setE (.int .i64) (.int .i64) x6 (nextI (x7, x8) x0) (IntKind.i64.wrap ((getE (.int .i64) (.int .i64) (0 : Int) (nextI (x7, x8) x0) x5) + (1 : Int))) x5) (clockE (.int .i64) (.int .i64) x6 (nextI (x7, x8) x0) x5) ((wheelN (x7, x8) x0)).1 ((wheelN (x7, x8) x0)).2))) (
   lFair.l5  m x0 x1 x2 x0 ((List.length x0) : Int) (0 : Int) x5 x6 x7 x8) := by kernel_rfl
theorem lFair.s5  (m : Nat) (x0 : List (El TShare)) (x1 : Int) (x2 : Int) (x3 : List (El TShare)) (x4 : Int) (x5 : Int) (x6 : List (Int × Int × Nat)) (x7 : Nat) (x8 : List (El TShare)) (x9 : List Int) : lFair.l5  (m + 1) x0 x1 x2 x3 x4 x5 x6 x7 x8 x9 =
  cond (decide (x5 < x4)) (
   test (decide ((0 : Int) ≤ x5)) (
    test (decide (x5 < ((List.length x3) : Int))) (
     cond (bne (getE (.int .i64) (.int .i64) (0 : Int) ((rdEl TShare x3 (Int.toNat x5))).1 x6) ((rdEl TShare x3 (Int.toNat x5))).2) (
      some ((.c (.v (.bool false))), [])) (
      lFair.l5  m x0 x1 x2 x3 x4 (IntKind.i64.wrap (x5 + (1 : Int))) x6 x7 x8 x9)))) (
   test (turns.pre ((x8, x9), Unit.unit)) (
    lFair.l6  m x0 x1 (turnsOf x8 x9) x2 (turnsOf x8 x9) ((List.length (turnsOf x8 x9)) : Int) (0 : Int) x8 x9)) := by kernel_rfl
theorem lFair.s6  (m : Nat) (x0 : List (El TShare)) (x1 : Int) (x2 : List (El TShare)) (x3 : Int) (x4 : List (El TShare)) (x5 : Int) (x6 : Int) (x7 : List (El TShare)) (x8 : List Int) : lFair.l6  (m + 1) x0 x1 x2 x3 x4 x5 x6 x7 x8 =
  cond (decide (x6 < x5)) (
   test (decide ((0 : Int) ≤ x6)) (
    test (decide (x6 < ((List.length x4) : Int))) (
     cond (decide (x6 ≥ ((List.length x0) : Int))) (
      some ((.c (.v (.bool false))), [])) (
      test (decide ((0 : Int) ≤ x6)) (
       test (decide (x6 < ((List.length x0) : Int))) (
        cond (bne ((rdEl TShare x4 (Int.toNat x6))).1 ((rdEl TShare x0 (Int.toNat x6))).1) (
         some ((.c (.v (.bool false))), [])) (
         cond (bne ((rdEl TShare x4 (Int.toNat x6))).2 (0 : Int)) (
          some ((.c (.v (.bool false))), [])) (
          lFair.l6  m x0 x1 x2 x3 x4 x5 (IntKind.i64.wrap (x6 + (1 : Int))) x7 x8)))))))) (
   cond (bne ((List.length x2) : Int) ((List.length x0) : Int)) (
    some ((.c (.v (.bool false))), [])) (
    lFair.l3  m x0 x1 (IntKind.i64.wrap (x3 + (1 : Int))) x7 x8)) := by kernel_rfl
theorem lFair.run_eq  (m : Nat) (x0 : (List Int)) (x1 : (List Int)) : run (lFair.cfg ) Try.f4.ntmps Try.f4.results.toList m [.code (bodyOf Try.f4)] (enter (ivA lFair.ps (x0, x1, ()))) = lFair.go  m x0 x1 := by kernel_rfl
theorem lFair.ret  (hs : SpecsOK Try.prog (lFair.specs )) (ho : OSpecsOK Try.prog (lFair.ospecs )) (x0 : (List Int)) (x1 : (List Int)) {m : Nat} {r : IV} (h : lFair.go  m x0 x1 = some (r, [])) : VE.Returns Try.prog 4 (ivA lFair.ps (x0, x1, ())) r :=
  returns_of_run (cfg := lFair.cfg ) (cfgOK_of mixed tab_ok hs ho) rfl Try.func4 (body_some (by kernel_rfl)) (Nat.le_of_ble_eq_true (by kernel_rfl)) ((lFair.run_eq  m x0 x1).trans h)
abbrev lFair.Law : Prop := ∀ (x0 : (List Int)) (x1 : (List Int)), lFair.pre (x0, x1, ()) = true → VE.Returns Try.prog 4 (ivA lFair.ps (x0, x1, ())) (lFair.res (x0, x1, ()))
theorem lFair.mkR (H : ∀ (x0 : (List Int)) (x1 : (List Int)), lFair.pre (x0, x1, ()) = true → VE.Returns Try.prog 4 (ivA lFair.ps (x0, x1, ())) (lFair.res (x0, x1, ()))) : SpecOK Try.prog 4 lFair.sp :=
  specOf_ret Try.func4 (by kernel_rfl) (by kernel_rfl) fun (x : (List Int) × (List Int) × Unit) hx => H (x.1) (x.2.1) hx
theorem lFair.mk  (hs : SpecsOK Try.prog (lFair.specs )) (ho : OSpecsOK Try.prog (lFair.ospecs )) (H : ∀ (x0 : (List Int)) (x1 : (List Int)), lFair.pre (x0, x1, ()) = true → ∃ m, lFair.go  m x0 x1 = some (lFair.res (x0, x1, ()), [])) : SpecOK Try.prog 4 lFair.sp :=
  lFair.mkR fun x0 x1 hx => (H x0 x1 hx).elim fun _ hm => lFair.ret  hs ho x0 x1 hm

/-! ### triage/triagelaw21.RoundSums -/
abbrev lSums.ps : List AK := [.d false (.sl (.int .i64)), .d false (.sl (.int .i64)), .d false (.int .i64)]
def lSums.pre : ElA lSums.ps → Bool := fun (x : (List Int) × (List Int) × Int × Unit) => fits (.sl (.int .i64)) (x.1) && (fits (.sl (.int .i64)) (x.2.1) && (fits (.int .i64) (x.2.2.1) && (true)))
def lSums.res : ElA lSums.ps → IV := fun (x : (List Int) × (List Int) × Int × Unit) => (fun _ _ _ => vb true) x.1 x.2.1 x.2.2.1
def lSums.sp : ISpec := spOf lSums.ps lSums.pre lSums.res
abbrev lSums.OK : Prop := SpecOK Try.prog 5 lSums.sp
noncomputable def lSums.body : Code := bodyOf Try.f5
noncomputable def lSums.rs : List ResultVar := Try.f5.results.toList
def lSums.live : List (Nat × Live) := [(36, ⟨[(7, .sl TShare), (8, .plain), (14, .plain), (15, .plain), (16, .plain), (83, .plain), (84, .plain), (113, .sl TShare), (114, .plain), (115, .plain)], [(9729, []), (109060096, [.sl TShare, .arr 3 (.int .i64)])]⟩), (29, ⟨[(7, .sl TShare), (8, .plain), (14, .plain), (15, .plain), (16, .plain), (19, .plain), (83, .plain), (84, .plain), (100, .sl TShare), (101, .plain), (102, .plain)], [(9729, []), (109060096, [.sl TShare, .arr 3 (.int .i64)])]⟩), (21, ⟨[(7, .sl TShare), (8, .plain), (14, .plain), (15, .plain), (83, .plain), (84, .plain)], [(9729, []), (109060096, [.sl TShare, .arr 3 (.int .i64)])]⟩), (9, ⟨[(0, .sl (.int .i64)), (1, .sl (.int .i64)), (2, .plain), (7, .arr 39 TShare), (8, .plain), (9, .plain), (10, .plain), (40, .sl (.int .i64)), (41, .plain), (42, .plain), (49, .sl (.int .i64)), (50, .plain), (51, .plain)], []⟩), (6, ⟨[(0, .sl (.int .i64)), (1, .sl (.int .i64)), (2, .plain), (7, .arr 39 TShare), (8, .plain), (40, .sl (.int .i64)), (41, .plain), (42, .plain)], []⟩)]
noncomputable def lSums.specs  : List (Nat × (List Bool × ISpec)) := [(8, ([], awake.sp))]
noncomputable def lSums.ospecs  : List (Nat × OS) := [(9, ⟨[], [], new.sp⟩), (10, ⟨[some (.obj [.sl TShare, .arr 3 (.int .i64)])], [], nextW.sp⟩), (13, ⟨[some (.obj [.sl TShare, .arr 3 (.int .i64)])], [], turns.sp⟩)]
noncomputable def lSums.cfg  : Cfg := ⟨lkp tab, lkp (lSums.specs ), lkp lSums.live, ⟨lkp (lSums.ospecs ), [], none, false⟩⟩
noncomputable def lSums.l1  (m : Nat) (x0 : List Int) (x1 : List Int) (x2 : Int) (x3 : Int) (x4 : List Int) (x5 : Int) (x6 : Int) (x7 : List (El TShare)) : R := run (lSums.cfg ) 132 lSums.rs m ((todoR 6 lSums.body []).getD []) ⟨ofList (.c .junk) [(0, (.c (.sl (.int .i64) x0))), (1, (.c (.sl (.int .i64) x1))), (2, (.c (.v (.int .i64 x2)))), (7, (.c (.sref 1022))), (8, (.c (.v (.int .i64 x3)))), (40, (.c (.sl (.int .i64) x4))), (41, (.c (.v (.int .i64 x5)))), (42, (.c (.v (.int .i64 x6))))], ofList none [(1022, some (.arr 39 TShare x7 false))], ofList false [(1022, true)]⟩
noncomputable def lSums.l2  (m : Nat) (x0 : List Int) (x1 : List Int) (x2 : Int) (x3 : Int) (x4 : Int) (x5 : Int) (x6 : List Int) (x7 : Int) (x8 : Int) (x9 : List Int) (x10 : Int) (x11 : Int) (x12 : List (El TShare)) : R := run (lSums.cfg ) 132 lSums.rs m ((todoR 9 lSums.body []).getD []) ⟨ofList (.c .junk) [(0, (.c (.sl (.int .i64) x0))), (1, (.c (.sl (.int .i64) x1))), (2, (.c (.v (.int .i64 x2)))), (7, (.c (.sref 1022))), (8, (.c (.v (.int .i64 x3)))), (9, (.c (.v (.int .i64 x4)))), (10, (.c (.v (.int .i64 x5)))), (40, (.c (.sl (.int .i64) x6))), (41, (.c (.v (.int .i64 x7)))), (42, (.c (.v (.int .i64 x8)))), (49, (.c (.sl (.int .i64) x9))), (50, (.c (.v (.int .i64 x10)))), (51, (.c (.v (.int .i64 x11))))], ofList none [(1022, some (.arr 39 TShare x12 false))], ofList false [(1022, true)]⟩
noncomputable def lSums.l3  (m : Nat) (x0 : List (El TShare)) (x1 : Int) (x2 : Int) (x3 : Int) (x4 : List (Int × Int × Nat)) (x5 : Nat) (x6 : List (El TShare)) (x7 : List Int) : R := run (lSums.cfg ) 132 lSums.rs m ((todoR 21 lSums.body []).getD []) ⟨ofList (.c .junk) [(7, (.c (.sl TShare x0))), (8, (.c (.v (.int .i64 x1)))), (14, (.c (.ref 109060096 0))), (15, (.c (.mref 9729))), (83, (.c (.v (.int .i64 x2)))), (84, (.c (.v (.int .i64 x3))))], ofList none [(9729, some (.map (.int .i64) (.int .i64) x4 x5)), (109060096, some (.cells 47 [(.sl TShare x6), (.sref 13959820290)])), (13959820290, some (.arr 3 (.int .i64) x7 false))], ofList false [(9729, true), (109060096, true), (13959820290, true)]⟩
noncomputable def lSums.l4  (m : Nat) (x0 : List (El TShare)) (x1 : Int) (x2 : Int) (x3 : Int) (x4 : Int) (x5 : Int) (x6 : List (El TShare)) (x7 : Int) (x8 : Int) (x9 : List (Int × Int × Nat)) (x10 : Nat) (x11 : List (El TShare)) (x12 : List Int) : R := run (lSums.cfg ) 132 lSums.rs m ((todoR 29 lSums.body []).getD []) ⟨ofList (.c .junk) [(7, (.c (.sl TShare x0))), (8, (.c (.v (.int .i64 x1)))), (14, (.c (.ref 109060096 0))), (15, (.c (.mref 9729))), (16, (.c (.v (.int .i64 x2)))), (19, (.c (.v (.int .i64 x3)))), (83, (.c (.v (.int .i64 x4)))), (84, (.c (.v (.int .i64 x5)))), (100, (.c (.sl TShare x6))), (101, (.c (.v (.int .i64 x7)))), (102, (.c (.v (.int .i64 x8))))], ofList none [(9729, some (.map (.int .i64) (.int .i64) x9 x10)), (109060096, some (.cells 47 [(.sl TShare x11), (.sref 13959820290)])), (13959820290, some (.arr 3 (.int .i64) x12 false))], ofList false [(9729, true), (109060096, true), (13959820290, true)]⟩
noncomputable def lSums.l5  (m : Nat) (x0 : List (El TShare)) (x1 : Int) (x2 : Int) (x3 : Int) (x4 : Int) (x5 : List (El TShare)) (x6 : Int) (x7 : Int) (x8 : List (Int × Int × Nat)) (x9 : Nat) (x10 : List (El TShare)) (x11 : List Int) : R := run (lSums.cfg ) 132 lSums.rs m ((todoR 36 lSums.body []).getD []) ⟨ofList (.c .junk) [(7, (.c (.sl TShare x0))), (8, (.c (.v (.int .i64 x1)))), (14, (.c (.ref 109060096 0))), (15, (.c (.mref 9729))), (16, (.c (.v (.int .i64 x2)))), (83, (.c (.v (.int .i64 x3)))), (84, (.c (.v (.int .i64 x4)))), (113, (.c (.sl TShare x5))), (114, (.c (.v (.int .i64 x6)))), (115, (.c (.v (.int .i64 x7))))], ofList none [(9729, some (.map (.int .i64) (.int .i64) x8 x9)), (109060096, some (.cells 47 [(.sl TShare x10), (.sref 13959820290)])), (13959820290, some (.arr 3 (.int .i64) x11 false))], ofList false [(9729, true), (109060096, true), (13959820290, true)]⟩
noncomputable def lSums.go  (m : Nat) (x0 : (List Int)) (x1 : (List Int)) (x2 : Int) : R := run (lSums.cfg ) 132 lSums.rs m [.code lSums.body] (enter (ivA lSums.ps (x0, x1, x2, ())))
theorem lSums.start  (m : Nat) (x0 : (List Int)) (x1 : (List Int)) (x2 : Int) : lSums.go  (m + 1) x0 x1 x2 =
  cond (decide (((List.length x0) : Int) < (1 : Int))) (
   some ((.c (.v (.bool true))), [])) (
   cond (decide (((List.length x0) : Int) > (12 : Int))) (
    some ((.c (.v (.bool true))), [])) (
    cond (decide (((List.length x1) : Int) < ((List.length x0) : Int))) (
     some ((.c (.v (.bool true))), [])) (
     lSums.l1  m x0 x1 x2 (0 : Int) x0 ((List.length x0) : Int) (0 : Int) ([] : List (El TShare))))) := by kernel_rfl
theorem lSums.s1  (m : Nat) (x0 : List Int) (x1 : List Int) (x2 : Int) (x3 : Int) (x4 : List Int) (x5 : Int) (x6 : Int) (x7 : List (El TShare)) : lSums.l1  (m + 1) x0 x1 x2 x3 x4 x5 x6 x7 =
  cond (decide (x6 < x5)) (
   test (decide ((0 : Int) ≤ x6)) (
    test (decide (x6 < ((List.length x4) : Int))) (
     test (decide ((0 : Int) ≤ x6)) (
      test (decide (x6 ≤ ((List.length x0) : Int))) (
       lSums.l2  m x0 x1 x2 x3 x6 (rdEl (.int .i64) x4 (Int.toNat x6)) x4 x5 x6 (List.drop 0 (List.take (Int.toNat x6) x0)) ((List.length (List.drop 0 (List.take (Int.toNat x6) x0))) : Int) (0 : Int) x7))))) (
   lSums.l3  m x7 x3 (IntKind.i64.wrap (Int.tmod (IntKind.u64.wrap x2) (200 : Int))) (0 : Int) [] 0 ([] : List (El TShare)) ([] : List Int)) := by kernel_rfl
theorem lSums.s2  (m : Nat) (x0 : List Int) (x1 : List Int) (x2 : Int) (x3 : Int) (x4 : Int) (x5 : Int) (x6 : List Int) (x7 : Int) (x8 : Int) (x9 : List Int) (x10 : Int) (x11 : Int) (x12 : List (El TShare)) : lSums.l2  (m + 1) x0 x1 x2 x3 x4 x5 x6 x7 x8 x9 x10 x11 x12 =
  cond (decide (x11 < x10)) (
   test (decide ((0 : Int) ≤ x11)) (
    test (decide (x11 < ((List.length x9) : Int))) (
     cond (x5 == (rdEl (.int .i64) x9 (Int.toNat x11))) (
      some ((.c (.v (.bool true))), [])) (
      lSums.l2  m x0 x1 x2 x3 x4 x5 x6 x7 x8 x9 x10 (IntKind.i64.wrap (x11 + (1 : Int))) x12)))) (
   test (decide ((0 : Int) ≤ x4)) (
    test (decide (x4 < ((List.length x1) : Int))) (
     test (decide (((List.length x12) + (List.length ((x5, (IntKind.i64.wrap ((1 : Int) + (IntKind.i64.wrap (Int.tmod (IntKind.u64.wrap (rdEl (.int .i64) x1 (Int.toNat x4))) (20 : Int)))))) :: ([] : List (El TShare))))) ≤ (lim 16))) (
      lSums.l1  m x0 x1 x2 (IntKind.i64.wrap (x3 + (IntKind.i64.wrap ((1 : Int) + (IntKind.i64.wrap (Int.tmod (IntKind.u64.wrap (rdEl (.int .i64) x1 (Int.toNat x4))) (20 : Int))))))) x6 x7 (IntKind.i64.wrap (x8 + (1 : Int))) (x12 ++ ((x5, (IntKind.i64.wrap ((1 : Int) + (IntKind.i64.wrap (Int.tmod (IntKind.u64.wrap (rdEl (.int .i64) x1 (Int.toNat x4))) (20 : Int)))))) :: ([] : List (El TShare)))))))) := by kernel_rfl
theorem lSums.s3  (m : Nat) (x0 : List (El TShare)) (x1 : Int) (x2 : Int) (x3 : Int) (x4 : List (Int × Int × Nat)) (x5 : Nat) (x6 : List (El TShare)) (x7 : List Int) : lSums.l3  (m + 1) x0 x1 x2 x3 x4 x5 x6 x7 =
  cond (decide (x3 < x2)) (
   test (nextW.pre ((x6, x7), (x0, Unit.unit))) (
    cond (Bool.not (mayRow x0)) (
     some ((.c (.v (.bool false))), [])) (
     test (turns.pre (((wheelN (x6, x7) x0)), Unit.unit)) (
      lSums.l4  m x0 x1 x3 (0 : Int) x2 x3 (turnsOf ((wheelN (x6, x7) x0)).1 ((wheelN (x6, x7) x0)).2) ((List.length (turnsOf ((wheelN (x6, x7) x0)).1 ((wheelN (x6, x7) x0)).2)) : Int) (0 : Int) (setE (.int .i64) (.int .i64) x5 (nextI (x6, x7) x0) (IntKind.i64.wrap (x3 + (1 : Int))) x4) (clockE (.int .i64) (.int .i64) x5 (nextI (x6, x7) x0) x4) ((wheelN (x6, x7) x0)).1 ((wheelN (x6, x7) x0)).2)))) (
   some ((.c (.v (.bool true))), [])) := by kernel_rfl
theorem lSums.s4  (m : Nat) (x0 : List (El TShare)) (x1 : Int) (x2 : Int) (x3 : Int) (x4 : Int) (x5 : Int) (x6 : List (El TShare)) (x7 : Int) (x8 : Int) (x9 : List (Int × Int × Nat)) (x10 : Nat) (x11 : List (El TShare)) (x12 : List Int) : lSums.l4  (m + 1) x0 x1 x2 x3 x4 x5 x6 x7 x8 x9 x10 x11 x12 =
  cond (decide (x8 < x7)) (
   test (decide ((0 : Int) ≤ x8)) (
    test (decide (x8 < ((List.length x6) : Int))) (
     lSums.l4  m x0 x1 x2 (IntKind.i64.wrap (x3 + ((rdEl TShare x6 (Int.toNat x8))).2)) x4 x5 x6 x7 (IntKind.i64.wrap (x8 + (1 : Int))) x9 x10 x11 x12))) (
   cond (bne x3 (0 : Int)) (
    some ((.c (.v (.bool false))), [])) (
    lSums.l5  m x0 x1 x2 x4 x5 x0 ((List.length x0) : Int) (0 : Int) x9 x10 x11 x12)) := by kernel_rfl
theorem lSums.s5  (m : Nat) (x0 : List (El TShare)) (x1 : Int) (x2 : Int) (x3 : Int) (x4 : Int) (x5 : List (El TShare)) (x6 : Int) (x7 : Int) (x8 : List (Int × Int × Nat)) (x9 : Nat) (x10 : List (El TShare)) (x11 : List Int) : lSums.l5  (m + 1) x0 x1 x2 x3 x4 x5 x6 x7 x8 x9 x10 x11 =
  cond (decide (x7 < x6)) (
   test (decide ((0 : Int) ≤ x7)) (
    test (decide (x7 < ((List.length x5) : Int))) (
     cond (decide ((IntKind.i64.wrap ((IntKind.i64.wrap (x2 + (1 : Int))) - (getE (.int .i64) (.int .i64) (0 : Int) ((rdEl TShare x5 (Int.toNat x7))).1 x8))) > (IntKind.i64.wrap ((2 : Int) * x1)))) (
      some ((.c (.v (.bool false))), [])) (
      lSums.l5  m x0 x1 x2 x3 x4 x5 x6 (IntKind.i64.wrap (x7 + (1 : Int))) x8 x9 x10 x11)))) (
   lSums.l3  m x0 x1 x3 (IntKind.i64.wrap (x4 + (1 : Int))) x8 x9 x10 x11) := by kernel_rfl
theorem lSums.run_eq  (m : Nat) (x0 : (List Int)) (x1 : (List Int)) (x2 : Int) : run (lSums.cfg ) Try.f5.ntmps Try.f5.results.toList m [.code (bodyOf Try.f5)] (enter (ivA lSums.ps (x0, x1, x2, ()))) = lSums.go  m x0 x1 x2 := by kernel_rfl
theorem lSums.ret  (hs : SpecsOK Try.prog (lSums.specs )) (ho : OSpecsOK Try.prog (lSums.ospecs )) (x0 : (List Int)) (x1 : (List Int)) (x2 : Int) {m : Nat} {r : IV} (h : lSums.go  m x0 x1 x2 = some (r, [])) : VE.Returns Try.prog 5 (ivA lSums.ps (x0, x1, x2, ())) r :=
  returns_of_run (cfg := lSums.cfg ) (cfgOK_of mixed tab_ok hs ho) rfl Try.func5 (body_some (by kernel_rfl)) (Nat.le_of_ble_eq_true (by kernel_rfl)) ((lSums.run_eq  m x0 x1 x2).trans h)
abbrev lSums.Law : Prop := ∀ (x0 : (List Int)) (x1 : (List Int)) (x2 : Int), lSums.pre (x0, x1, x2, ()) = true → VE.Returns Try.prog 5 (ivA lSums.ps (x0, x1, x2, ())) (lSums.res (x0, x1, x2, ()))
theorem lSums.mkR (H : ∀ (x0 : (List Int)) (x1 : (List Int)) (x2 : Int), lSums.pre (x0, x1, x2, ()) = true → VE.Returns Try.prog 5 (ivA lSums.ps (x0, x1, x2, ())) (lSums.res (x0, x1, x2, ()))) : SpecOK Try.prog 5 lSums.sp :=
  specOf_ret Try.func5 (by kernel_rfl) (by kernel_rfl) fun (x : (List Int) × (List Int) × Int × Unit) hx => H (x.1) (x.2.1) (x.2.2.1) hx
theorem lSums.mk  (hs : SpecsOK Try.prog (lSums.specs )) (ho : OSpecsOK Try.prog (lSums.ospecs )) (H : ∀ (x0 : (List Int)) (x1 : (List Int)) (x2 : Int), lSums.pre (x0, x1, x2, ()) = true → ∃ m, lSums.go  m x0 x1 x2 = some (lSums.res (x0, x1, x2, ()), [])) : SpecOK Try.prog 5 lSums.sp :=
  lSums.mkR fun x0 x1 x2 hx => (H x0 x1 x2 hx).elim fun _ hm => lSums.ret  hs ho x0 x1 x2 hm

end Go.Proofs.Ytgocadoemofepaa
