/-
  Steps of the bodies, from checkpoint to checkpoint (printed by wip/VE/mk2.py).
-/
import Derived.Test.YtdoilggfajngiaaSF
import Derived.Test.YtdoilggfajngiaaSG
namespace Go.Proofs.Ytdoilggfajngiaa
open Go VE

/-! ### triage/triageref10.MayState -/
abbrev maySR.ps : List AK := [.d false (.sl TStatus)]
def maySR.pre : ElA maySR.ps → Bool := fun (x : (List (El TStatus)) × Unit) => fits (.sl TStatus) (x.1) && (true)
def maySR.res : ElA maySR.ps → IV := fun (x : (List (El TStatus)) × Unit) => (fun l => vb (maySB l)) x.1
def maySR.sp : ISpec := spOf maySR.ps maySR.pre maySR.res
abbrev maySR.OK : Prop := SpecOK Try.prog 18 maySR.sp
noncomputable def maySR.body : Code := bodyOf Try.f18
noncomputable def maySR.rs : List ResultVar := Try.f18.results.toList
def maySR.live : List (Nat × Live) := [(2, ⟨[(0, .sl TStatus), (9, .sl TStatus), (10, .plain), (11, .plain)], []⟩)]
noncomputable def maySR.specs  : List (Nat × (List Bool × ISpec)) := [(17, ([], mayR.sp)), (40, ([], timeR.sp))]
noncomputable def maySR.cfg  : Cfg := ⟨lkp tab, lkp (maySR.specs ), lkp maySR.live⟩
noncomputable def maySR.l1  (m : Nat) (x0 : List (El TStatus)) (x1 : List (El TStatus)) (x2 : Int) (x3 : Int) : R := run (maySR.cfg ) 123 maySR.rs m ((todoR 2 maySR.body []).getD []) ⟨ofList (.c .junk) [(0, (.c (.sl TStatus x0))), (9, (.c (.sl TStatus x1))), (10, (.c (.v (.int .i64 x2)))), (11, (.c (.v (.int .i64 x3))))], ofList none [], ofList false []⟩
noncomputable def maySR.go  (m : Nat) (x0 : (List (El TStatus))) : R := run (maySR.cfg ) 123 maySR.rs m [.code maySR.body] (enter (ivA maySR.ps (x0, ())))
theorem maySR.start  (m : Nat) (x0 : (List (El TStatus))) : maySR.go  (m + 1) x0 =
  maySR.l1  m x0 x0 ((List.length x0) : Int) (0 : Int) := by kernel_rfl
theorem maySR.s1  (m : Nat) (x0 : List (El TStatus)) (x1 : List (El TStatus)) (x2 : Int) (x3 : Int) : maySR.l1  (m + 1) x0 x1 x2 x3 =
  cond (decide (x3 < x2)) (
   test (decide ((0 : Int) ≤ x3)) (
    test (decide (x3 < ((List.length x1) : Int))) (
     test (mayR.pre (((rdEl TStatus x1 (Int.toNat x3))).1, Unit.unit)) (
      cond (Bool.not (mayB ((rdEl TStatus x1 (Int.toNat x3))).1)) (
       some ((.c (.v (.bool false))), [])) (
       cond (decide (x3 > (0 : Int))) (
        test (decide ((0 : Int) ≤ (IntKind.i64.wrap (x3 - (1 : Int))))) (
         test (decide ((IntKind.i64.wrap (x3 - (1 : Int))) < ((List.length x0) : Int))) (
          cond (decide ((((rdEl TStatus x1 (Int.toNat x3))).1).1 ≤ (((rdEl TStatus x0 (Int.toNat (IntKind.i64.wrap (x3 - (1 : Int)))))).1).1)) (
           some ((.c (.v (.bool false))), [])) (
           cond (decide (((((((rdEl TStatus x1 (Int.toNat x3))).2).1).2).2).1 < (0 : Int))) (
            some ((.c (.v (.bool false))), [])) (
            cond (decide (((((((rdEl TStatus x1 (Int.toNat x3))).2).1).2).2).1 > (2 : Int))) (
             some ((.c (.v (.bool false))), [])) (
             cond (decide ((((((rdEl TStatus x1 (Int.toNat x3))).2).1).2).1 < (0 : Int))) (
              some ((.c (.v (.bool false))), [])) (
              cond (decide (((((rdEl TStatus x1 (Int.toNat x3))).2).2).1 < (0 : Int))) (
               some ((.c (.v (.bool false))), [])) (
               cond (decide ((((((((((rdEl TStatus x1 (Int.toNat x3))).2).2).2).2).2).2).2).2 < (0 : Int))) (
                some ((.c (.v (.bool false))), [])) (
                cond (decide (((((((rdEl TStatus x1 (Int.toNat x3))).2).1).2).2).2 < (0 : Int))) (
                 some ((.c (.v (.bool false))), [])) (
                 cond (decide ((((((((((rdEl TStatus x1 (Int.toNat x3))).2).2).2).2).1).2).2).2 < (0 : Int))) (
                  some ((.c (.v (.bool false))), [])) (
                  cond (decide ((((((((((rdEl TStatus x1 (Int.toNat x3))).2).2).2).2).1).2).2).2 > (10 : Int))) (
                   some ((.c (.v (.bool false))), [])) (
                   cond (decide (((((((rdEl TStatus x1 (Int.toNat x3))).2).2).2).1).1 < (0 : Int))) (
                    some ((.c (.v (.bool false))), [])) (
                    cond (decide (((((((rdEl TStatus x1 (Int.toNat x3))).2).2).2).1).1 > ((((((rdEl TStatus x1 (Int.toNat x3))).2).2).2).1).2)) (
                     some ((.c (.v (.bool false))), [])) (
                     cond (bne ((((((((rdEl TStatus x1 (Int.toNat x3))).2).2).2).2).2).2).1 (timeI ((((((((rdEl TStatus x1 (Int.toNat x3))).2).2).2).2).2).2).1)) (
                      some ((.c (.v (.bool false))), [])) (
                      cond (bne (((((((((rdEl TStatus x1 (Int.toNat x3))).2).2).2).2).2).2).2).1 (timeI (((((((((rdEl TStatus x1 (Int.toNat x3))).2).2).2).2).2).2).2).1)) (
                       some ((.c (.v (.bool false))), [])) (
                       cond (bne ((((((((rdEl TStatus x1 (Int.toNat x3))).2).2).2).2).1).2).1 (timeI ((((((((rdEl TStatus x1 (Int.toNat x3))).2).2).2).2).1).2).1)) (
                        some ((.c (.v (.bool false))), [])) (
                        cond (bne (((((((((rdEl TStatus x1 (Int.toNat x3))).2).2).2).2).1).2).2).1 (timeI (((((((((rdEl TStatus x1 (Int.toNat x3))).2).2).2).2).1).2).2).1)) (
                         some ((.c (.v (.bool false))), [])) (
                         cond (((((((rdEl TStatus x1 (Int.toNat x3))).2).2).2).2).2).1 (
                          cond (((((((rdEl TStatus x1 (Int.toNat x3))).2).2).2).2).1).1 (
                           some ((.c (.v (.bool false))), [])) (
                           maySR.l1  m x0 x1 x2 (IntKind.i64.wrap (x3 + (1 : Int))))) (
                          maySR.l1  m x0 x1 x2 (IntKind.i64.wrap (x3 + (1 : Int)))))))))))))))))))))) (
        cond (decide (((((((rdEl TStatus x1 (Int.toNat x3))).2).1).2).2).1 < (0 : Int))) (
         some ((.c (.v (.bool false))), [])) (
         cond (decide (((((((rdEl TStatus x1 (Int.toNat x3))).2).1).2).2).1 > (2 : Int))) (
          some ((.c (.v (.bool false))), [])) (
          cond (decide ((((((rdEl TStatus x1 (Int.toNat x3))).2).1).2).1 < (0 : Int))) (
           some ((.c (.v (.bool false))), [])) (
           cond (decide (((((rdEl TStatus x1 (Int.toNat x3))).2).2).1 < (0 : Int))) (
            some ((.c (.v (.bool false))), [])) (
            cond (decide ((((((((((rdEl TStatus x1 (Int.toNat x3))).2).2).2).2).2).2).2).2 < (0 : Int))) (
             some ((.c (.v (.bool false))), [])) (
             cond (decide (((((((rdEl TStatus x1 (Int.toNat x3))).2).1).2).2).2 < (0 : Int))) (
              some ((.c (.v (.bool false))), [])) (
              cond (decide ((((((((((rdEl TStatus x1 (Int.toNat x3))).2).2).2).2).1).2).2).2 < (0 : Int))) (
               some ((.c (.v (.bool false))), [])) (
               cond (decide ((((((((((rdEl TStatus x1 (Int.toNat x3))).2).2).2).2).1).2).2).2 > (10 : Int))) (
                some ((.c (.v (.bool false))), [])) (
                cond (decide (((((((rdEl TStatus x1 (Int.toNat x3))).2).2).2).1).1 < (0 : Int))) (
                 some ((.c (.v (.bool false))), [])) (
                 cond (decide (((((((rdEl TStatus x1 (Int.toNat x3))).2).2).2).1).1 > ((((((rdEl TStatus x1 (Int.toNat x3))).2).2).2).1).2)) (
                  some ((.c (.v (.bool false))), [])) (
                  cond (bne ((((((((rdEl TStatus x1 (Int.toNat x3))).2).2).2).2).2).2).1 (timeI ((((((((rdEl TStatus x1 (Int.toNat x3))).2).2).2).2).2).2).1)) (
                   some ((.c (.v (.bool false))), [])) (
                   cond (bne (((((((((rdEl TStatus x1 (Int.toNat x3))).2).2).2).2).2).2).2).1 (timeI (((((((((rdEl TStatus x1 (Int.toNat x3))).2).2).2).2).2).2).2).1)) (
                    some ((.c (.v (.bool false))), [])) (
                    cond (bne ((((((((rdEl TStatus x1 (Int.toNat x3))).2).2).2).2).1).2).1 (timeI ((((((((rdEl TStatus x1 (Int.toNat x3))).2).2).2).2).1).2).1)) (
                     some ((.c (.v (.bool false))), [])) (
                     cond (bne (((((((((rdEl TStatus x1 (Int.toNat x3))).2).2).2).2).1).2).2).1 (timeI (((((((((rdEl TStatus x1 (Int.toNat x3))).2).2).2).2).1).2).2).1)) (
                      some ((.c (.v (.bool false))), [])) (
                      cond (((((((rdEl TStatus x1 (Int.toNat x3))).2).2).2).2).2).1 (
                       cond (((((((rdEl TStatus x1 (Int.toNat x3))).2).2).2).2).1).1 (
                        some ((.c (.v (.bool false))), [])) (
                        maySR.l1  m x0 x1 x2 (IntKind.i64.wrap (x3 + (1 : Int))))) (
                       maySR.l1  m x0 x1 x2 (IntKind.i64.wrap (x3 + (1 : Int)))))))))))))))))))))))) (
   some ((.c (.v (.bool (decide (((List.length x0) : Int) ≤ (64 : Int)))))), [])) := by kernel_rfl
theorem maySR.run_eq  (m : Nat) (x0 : (List (El TStatus))) : run (maySR.cfg ) Try.f18.ntmps Try.f18.results.toList m [.code (bodyOf Try.f18)] (enter (ivA maySR.ps (x0, ()))) = maySR.go  m x0 := by kernel_rfl
theorem maySR.ret  (hs : SpecsOK Try.prog (maySR.specs )) (x0 : (List (El TStatus))) {m : Nat} {r : IV} (h : maySR.go  m x0 = some (r, [])) : VE.Returns Try.prog 18 (ivA maySR.ps (x0, ())) r :=
  returns_of_run (cfg := maySR.cfg ) (cfgOK_of mixed tab_ok hs) Try.func18 (body_some (by kernel_rfl)) (Nat.le_of_ble_eq_true (by kernel_rfl)) ((maySR.run_eq  m x0).trans h)
abbrev maySR.Law : Prop := ∀ (x0 : (List (El TStatus))), maySR.pre (x0, ()) = true → VE.Returns Try.prog 18 (ivA maySR.ps (x0, ())) (maySR.res (x0, ()))
theorem maySR.mkR (H : ∀ (x0 : (List (El TStatus))), maySR.pre (x0, ()) = true → VE.Returns Try.prog 18 (ivA maySR.ps (x0, ())) (maySR.res (x0, ()))) : SpecOK Try.prog 18 maySR.sp :=
  specOf_ret Try.func18 (by kernel_rfl) (by kernel_rfl) fun (x : (List (El TStatus)) × Unit) hx => H (x.1) hx
theorem maySR.mk  (hs : SpecsOK Try.prog (maySR.specs )) (H : ∀ (x0 : (List (El TStatus))), maySR.pre (x0, ()) = true → ∃ m, maySR.go  m x0 = some (maySR.res (x0, ()), [])) : SpecOK Try.prog 18 maySR.sp :=
  maySR.mkR fun x0 hx => (H x0 hx).elim fun _ hm => maySR.ret  hs x0 hm

/-! ### triage/triagelaw16.StateFinds -/
abbrev lFinds.ps : List AK := [.d false (.sl TStatus), .d false (.int .i64), .d false (.int .i64)]
def lFinds.pre : ElA lFinds.ps → Bool := fun (x : (List (El TStatus)) × Int × Int × Unit) => fits (.sl TStatus) (x.1) && (fits (.int .i64) (x.2.1) && (fits (.int .i64) (x.2.2.1) && (true)))
def lFinds.res : ElA lFinds.ps → IV := fun (x : (List (El TStatus)) × Int × Int × Unit) => (fun _ _ _ => vb true) x.1 x.2.1 x.2.2.1
def lFinds.sp : ISpec := spOf lFinds.ps lFinds.pre lFinds.res
abbrev lFinds.OK : Prop := SpecOK Try.prog 5 lFinds.sp
noncomputable def lFinds.body : Code := bodyOf Try.f5
noncomputable def lFinds.rs : List ResultVar := Try.f5.results.toList
def lFinds.live : List (Nat × Live) := [(5, ⟨[(0, .sl TStatus), (1, .plain), (2, .plain), (7, .plain), (32, .sl TStatus), (33, .plain), (34, .plain)], []⟩)]
noncomputable def lFinds.specs  : List (Nat × (List Bool × ISpec)) := [(8, ([], lightS16.sp)), (9, ([], awakeS.sp)), (16, ([], mayS.sp)), (18, ([], maySR.sp)), (19, ([], find.sp)), (20, ([], hosts.sp))]
noncomputable def lFinds.cfg  : Cfg := ⟨lkp tab, lkp (lFinds.specs ), lkp lFinds.live⟩
noncomputable def lFinds.l1  (m : Nat) (x0 : List (El TStatus)) (x1 : Int) (x2 : Int) (x3 : Bool) (x4 : List (El TStatus)) (x5 : Int) (x6 : Int) : R := run (lFinds.cfg ) 107 lFinds.rs m ((todoR 5 lFinds.body []).getD []) ⟨ofList (.c .junk) [(0, (.c (.sl TStatus x0))), (1, (.c (.v (.int .i64 x1)))), (2, (.c (.v (.int .i64 x2)))), (7, (.c (.v (.bool x3)))), (32, (.c (.sl TStatus x4))), (33, (.c (.v (.int .i64 x5)))), (34, (.c (.v (.int .i64 x6))))], ofList none [], ofList false []⟩
noncomputable def lFinds.go  (m : Nat) (x0 : (List (El TStatus))) (x1 : Int) (x2 : Int) : R := run (lFinds.cfg ) 107 lFinds.rs m [.code lFinds.body] (enter (ivA lFinds.ps (x0, x1, x2, ())))
theorem lFinds.start  (m : Nat) (x0 : (List (El TStatus))) (x1 : Int) (x2 : Int) : lFinds.go  (m + 1) x0 x1 x2 =
  test (lightS16.pre (x0, Unit.unit)) (
   cond (decide ((lightL x0) > (0 : Int))) (
    test (mayS.pre (x0, Unit.unit)) (
     test (maySR.pre (x0, Unit.unit)) (
      cond ((maySB x0) == (maySB x0)) (
       some ((.c (.v (.bool true))), [])) (
       some ((.c (.v (.bool false))), []))))) (
    test (mayS.pre (x0, Unit.unit)) (
     cond (Bool.not (maySB x0)) (
      test (mayS.pre (x0, Unit.unit)) (
       test (maySR.pre (x0, Unit.unit)) (
        cond ((maySB x0) == (maySB x0)) (
         some ((.c (.v (.bool true))), [])) (
         some ((.c (.v (.bool false))), []))))) (
      test (maySR.pre (x0, Unit.unit)) (
       cond (Bool.not (maySB x0)) (
        test (mayS.pre (x0, Unit.unit)) (
         test (maySR.pre (x0, Unit.unit)) (
          cond ((maySB x0) == (maySB x0)) (
           some ((.c (.v (.bool true))), [])) (
           some ((.c (.v (.bool false))), []))))) (
        lFinds.l1  m x0 x1 x2 false x0 ((List.length x0) : Int) (0 : Int))))))) := by kernel_rfl
theorem lFinds.s1  (m : Nat) (x0 : List (El TStatus)) (x1 : Int) (x2 : Int) (x3 : Bool) (x4 : List (El TStatus)) (x5 : Int) (x6 : Int) : lFinds.l1  (m + 1) x0 x1 x2 x3 x4 x5 x6 =
  cond (decide (x6 < x5)) (
   test (decide ((0 : Int) ≤ x6)) (
    test (decide (x6 < ((List.length x4) : Int))) (
     test (find.pre (x0, ((((rdEl TStatus x4 (Int.toNat x6))).1).1, Unit.unit))) (
      cond (bne (ixOf (idIs (((rdEl TStatus x4 (Int.toNat x6))).1).1) x0) x6) (
       some ((.c (.v (.bool false))), [])) (
       cond x3 (
        lFinds.l1  m x0 x1 x2 true x4 x5 (IntKind.i64.wrap (x6 + (1 : Int)))) (
        lFinds.l1  m x0 x1 x2 ((((rdEl TStatus x4 (Int.toNat x6))).1).1 == x1) x4 x5 (IntKind.i64.wrap (x6 + (1 : Int))))))))) (
   test (find.pre (x0, (x1, Unit.unit))) (
    cond (Bool.not ((decide ((ixOf (idIs x1) x0) ≥ (0 : Int))) == x3)) (
     some ((.c (.v (.bool false))), [])) (
     cond (((List.length x0) : Int) == (0 : Int)) (
      some ((.c (.v (.bool true))), [])) (
      test (Bool.not (decide ((IntKind.u64.wrap ((List.length x0) : Int)) = (0 : Int)))) (
       test (decide ((0 : Int) ≤ (IntKind.i64.wrap (Int.tmod (IntKind.u64.wrap x2) (IntKind.u64.wrap ((List.length x0) : Int)))))) (
        test (decide ((IntKind.i64.wrap (Int.tmod (IntKind.u64.wrap x2) (IntKind.u64.wrap ((List.length x0) : Int)))) ≤ ((List.length x0) : Int))) (
         test (decide (((List.length ([] : List (El TStatus))) + (List.length (List.drop 0 (List.take (Int.toNat (IntKind.i64.wrap (Int.tmod (IntKind.u64.wrap x2) (IntKind.u64.wrap ((List.length x0) : Int))))) x0)))) ≤ (lim 200))) (
          test (decide ((0 : Int) ≤ (IntKind.i64.wrap ((IntKind.i64.wrap (Int.tmod (IntKind.u64.wrap x2) (IntKind.u64.wrap ((List.length x0) : Int)))) + (1 : Int))))) (
           test (decide ((IntKind.i64.wrap ((IntKind.i64.wrap (Int.tmod (IntKind.u64.wrap x2) (IntKind.u64.wrap ((List.length x0) : Int)))) + (1 : Int))) ≤ ((List.length x0) : Int))) (
            test (decide (((List.length (([] : List (El TStatus)) ++ (List.drop 0 (List.take (Int.toNat (IntKind.i64.wrap (Int.tmod (IntKind.u64.wrap x2) (IntKind.u64.wrap ((List.length x0) : Int))))) x0)))) + (List.length (List.drop (Int.toNat (IntKind.i64.wrap ((IntKind.i64.wrap (Int.tmod (IntKind.u64.wrap x2) (IntKind.u64.wrap ((List.length x0) : Int)))) + (1 : Int)))) (List.take (List.length x0) x0)))) ≤ (lim 200))) (
             test (mayS.pre (((([] : List (El TStatus)) ++ (List.drop 0 (List.take (Int.toNat (IntKind.i64.wrap (Int.tmod (IntKind.u64.wrap x2) (IntKind.u64.wrap ((List.length x0) : Int))))) x0))) ++ (List.drop (Int.toNat (IntKind.i64.wrap ((IntKind.i64.wrap (Int.tmod (IntKind.u64.wrap x2) (IntKind.u64.wrap ((List.length x0) : Int)))) + (1 : Int)))) (List.take (List.length x0) x0))), Unit.unit)) (
              cond (maySB ((([] : List (El TStatus)) ++ (List.drop 0 (List.take (Int.toNat (IntKind.i64.wrap (Int.tmod (IntKind.u64.wrap x2) (IntKind.u64.wrap ((List.length x0) : Int))))) x0))) ++ (List.drop (Int.toNat (IntKind.i64.wrap ((IntKind.i64.wrap (Int.tmod (IntKind.u64.wrap x2) (IntKind.u64.wrap ((List.length x0) : Int)))) + (1 : Int)))) (List.take (List.length x0) x0)))) (
               test (decide ((0 : Int) ≤ (IntKind.i64.wrap (Int.tmod (IntKind.u64.wrap x2) (IntKind.u64.wrap ((List.length x0) : Int)))))) (
                test (decide ((IntKind.i64.wrap (Int.tmod (IntKind.u64.wrap x2) (IntKind.u64.wrap ((List.length x0) : Int)))) < ((List.length x0) : Int))) (
                 test (find.pre (((([] : List (El TStatus)) ++ (List.drop 0 (List.take (Int.toNat (IntKind.i64.wrap (Int.tmod (IntKind.u64.wrap x2) (IntKind.u64.wrap ((List.length x0) : Int))))) x0))) ++ (List.drop (Int.toNat (IntKind.i64.wrap ((IntKind.i64.wrap (Int.tmod (IntKind.u64.wrap x2) (IntKind.u64.wrap ((List.length x0) : Int)))) + (1 : Int)))) (List.take (List.length x0) x0))), ((((rdEl TStatus x0 (Int.toNat (IntKind.i64.wrap (Int.tmod (IntKind.u64.wrap x2) (IntKind.u64.wrap ((List.length x0) : Int))))))).1).1, Unit.unit))) (
                  cond ((ixOf (idIs (((rdEl TStatus x0 (Int.toNat (IntKind.i64.wrap (Int.tmod (IntKind.u64.wrap x2) (IntKind.u64.wrap ((List.length x0) : Int))))))).1).1) ((([] : List (El TStatus)) ++ (List.drop 0 (List.take (Int.toNat (IntKind.i64.wrap (Int.tmod (IntKind.u64.wrap x2) (IntKind.u64.wrap ((List.length x0) : Int))))) x0))) ++ (List.drop (Int.toNat (IntKind.i64.wrap ((IntKind.i64.wrap (Int.tmod (IntKind.u64.wrap x2) (IntKind.u64.wrap ((List.length x0) : Int)))) + (1 : Int)))) (List.take (List.length x0) x0)))) == (-(1 : Int))) (
                   test (hosts.pre (((([] : List (El TStatus)) ++ (List.drop 0 (List.take (Int.toNat (IntKind.i64.wrap (Int.tmod (IntKind.u64.wrap x2) (IntKind.u64.wrap ((List.length x0) : Int))))) x0))) ++ (List.drop (Int.toNat (IntKind.i64.wrap ((IntKind.i64.wrap (Int.tmod (IntKind.u64.wrap x2) (IntKind.u64.wrap ((List.length x0) : Int)))) + (1 : Int)))) (List.take (List.length x0) x0))), Unit.unit)) (
                    cond (((List.length (hostsL ((([] : List (El TStatus)) ++ (List.drop 0 (List.take (Int.toNat (IntKind.i64.wrap (Int.tmod (IntKind.u64.wrap x2) (IntKind.u64.wrap ((List.length x0) : Int))))) x0))) ++ (List.drop (Int.toNat (IntKind.i64.wrap ((IntKind.i64.wrap (Int.tmod (IntKind.u64.wrap x2) (IntKind.u64.wrap ((List.length x0) : Int)))) + (1 : Int)))) (List.take (List.length x0) x0))))) : Int) == (IntKind.i64.wrap (((List.length x0) : Int) - (1 : Int)))) (
                     some ((.c (.v (.bool true))), [])) (
                     some ((.c (.v (.bool false))), [])))) (
                   some ((.c (.v (.bool false))), [])))))) (
               some ((.c (.v (.bool false))), [])))))))))))))) := by kernel_rfl
theorem lFinds.run_eq  (m : Nat) (x0 : (List (El TStatus))) (x1 : Int) (x2 : Int) : run (lFinds.cfg ) Try.f5.ntmps Try.f5.results.toList m [.code (bodyOf Try.f5)] (enter (ivA lFinds.ps (x0, x1, x2, ()))) = lFinds.go  m x0 x1 x2 := by kernel_rfl
theorem lFinds.ret  (hs : SpecsOK Try.prog (lFinds.specs )) (x0 : (List (El TStatus))) (x1 : Int) (x2 : Int) {m : Nat} {r : IV} (h : lFinds.go  m x0 x1 x2 = some (r, [])) : VE.Returns Try.prog 5 (ivA lFinds.ps (x0, x1, x2, ())) r :=
  returns_of_run (cfg := lFinds.cfg ) (cfgOK_of mixed tab_ok hs) Try.func5 (body_some (by kernel_rfl)) (Nat.le_of_ble_eq_true (by kernel_rfl)) ((lFinds.run_eq  m x0 x1 x2).trans h)
abbrev lFinds.Law : Prop := ∀ (x0 : (List (El TStatus))) (x1 : Int) (x2 : Int), lFinds.pre (x0, x1, x2, ()) = true → VE.Returns Try.prog 5 (ivA lFinds.ps (x0, x1, x2, ())) (lFinds.res (x0, x1, x2, ()))
theorem lFinds.mkR (H : ∀ (x0 : (List (El TStatus))) (x1 : Int) (x2 : Int), lFinds.pre (x0, x1, x2, ()) = true → VE.Returns Try.prog 5 (ivA lFinds.ps (x0, x1, x2, ())) (lFinds.res (x0, x1, x2, ()))) : SpecOK Try.prog 5 lFinds.sp :=
  specOf_ret Try.func5 (by kernel_rfl) (by kernel_rfl) fun (x : (List (El TStatus)) × Int × Int × Unit) hx => H (x.1) (x.2.1) (x.2.2.1) hx
theorem lFinds.mk  (hs : SpecsOK Try.prog (lFinds.specs )) (H : ∀ (x0 : (List (El TStatus))) (x1 : Int) (x2 : Int), lFinds.pre (x0, x1, x2, ()) = true → ∃ m, lFinds.go  m x0 x1 x2 = some (lFinds.res (x0, x1, x2, ()), [])) : SpecOK Try.prog 5 lFinds.sp :=
  lFinds.mkR fun x0 x1 x2 hx => (H x0 x1 x2 hx).elim fun _ hm => lFinds.ret  hs x0 x1 x2 hm

/-! ### triage/triagelaw16.StateForms -/
abbrev lForms.ps : List AK := [.d false (.sl TStatus), .d false (.sl TStatus), .d true TStatus, .d true THost, .d false (.int .i64), .d false (.int .i64)]
def lForms.pre : ElA lForms.ps → Bool := fun (x : (List (El TStatus)) × (List (El TStatus)) × (El TStatus) × (El THost) × Int × Int × Unit) => fits (.sl TStatus) (x.1) && (fits (.sl TStatus) (x.2.1) && (fits TStatus (x.2.2.1) && (fits THost (x.2.2.2.1) && (fits (.int .i64) (x.2.2.2.2.1) && (fits (.int .i64) (x.2.2.2.2.2.1) && (true))))))
def lForms.res : ElA lForms.ps → IV := fun (x : (List (El TStatus)) × (List (El TStatus)) × (El TStatus) × (El THost) × Int × Int × Unit) => (fun _ _ _ _ _ _ => vb true) x.1 x.2.1 x.2.2.1 x.2.2.2.1 x.2.2.2.2.1 x.2.2.2.2.2.1
def lForms.sp : ISpec := spOf lForms.ps lForms.pre lForms.res
abbrev lForms.OK : Prop := SpecOK Try.prog 7 lForms.sp
noncomputable def lForms.body : Code := bodyOf Try.f7
noncomputable def lForms.rs : List ResultVar := Try.f7.results.toList
def lForms.live : List (Nat × Live) := [(5, ⟨[(0, .sl TStatus), (1, .sl TStatus), (4, .plain), (5, .plain), (8, .plain), (9, .plain), (13, .arr 28 THost), (30, .sl TStatus), (31, .plain), (32, .plain)], [(1, []), (3, [])]⟩)]
noncomputable def lForms.specs  : List (Nat × (List Bool × ISpec)) := [(8, ([], lightS16.sp)), (14, ([], light.sp)), (9, ([], awakeS.sp)), (15, ([], newS.sp)), (24, ([], newR.sp)), (23, ([], sameOR.sp)), (16, ([], mayS.sp)), (18, ([], maySR.sp)), (19, ([], find.sp)), (25, ([], findR.sp)), (11, ([], free.sp)), (26, ([], freeR.sp)), (10, ([], members.sp)), (27, ([], membersR.sp)), (13, ([], sameSR.sp)), (12, ([], outs.sp)), (28, ([], outsR.sp)), (29, ([], sameS.sp)), (22, ([], copyS.sp)), (20, ([], hosts.sp)), (30, ([], sameHR.sp))]
noncomputable def lForms.cfg  : Cfg := ⟨lkp tab, lkp (lForms.specs ), lkp lForms.live⟩
noncomputable def lForms.l1  (m : Nat) (x0 : List (El TStatus)) (x1 : List (El TStatus)) (x2 : Int) (x3 : Int) (x4 : List (El TStatus)) (x5 : Int) (x6 : Int) (x7 : List (El THost)) (x8 : Int) (x9 : ByteArray) (x10 : Int) (x11 : ByteArray) (x12 : Int) (x13 : List (El TPair)) (x14 : Bool) (x15 : Int) (x16 : Int) (x17 : Int) (x18 : Int) (x19 : Int) (x20 : Int) (x21 : Bool) (x22 : Int) (x23 : Int) (x24 : Int) (x25 : Bool) (x26 : Int) (x27 : Int) (x28 : Int) (x29 : Int) (x30 : ByteArray) (x31 : Int) (x32 : ByteArray) (x33 : Int) (x34 : List (El TPair)) : R := run (lForms.cfg ) 110 lForms.rs m ((todoR 5 lForms.body []).getD []) ⟨ofList (.c .junk) [(0, (.c (.sl TStatus x0))), (1, (.c (.sl TStatus x1))), (4, (.c (.v (.int .i64 x2)))), (5, (.c (.v (.int .i64 x3)))), (8, (.c (.ref 1 0))), (9, (.c (.ref 3 0))), (13, (.c (.sref 1790))), (30, (.c (.sl TStatus x4))), (31, (.c (.v (.int .i64 x5)))), (32, (.c (.v (.int .i64 x6))))], ofList none [(1790, some (.arr 28 THost x7 false)), (1, some (.cells 36 [(.v (.int .i64 x8)), (.v (.string x9)), (.v (.int .i64 x10)), (.v (.string x11)), (.v (.int .i64 x12)), (.sl TPair x13), (.v (.bool x14)), (.v (.int .i64 x15)), (.v (.int .i64 x16)), (.v (.int .i64 x17)), (.v (.int .i64 x18)), (.v (.int .i64 x19)), (.v (.int .i64 x20)), (.v (.bool x21)), (.v (.int .i64 x22)), (.v (.int .i64 x23)), (.v (.int .i64 x24)), (.v (.bool x25)), (.v (.int .i64 x26)), (.v (.int .i64 x27)), (.v (.int .i64 x28))])), (3, some (.cells 28 [(.v (.int .i64 x29)), (.v (.string x30)), (.v (.int .i64 x31)), (.v (.string x32)), (.v (.int .i64 x33)), (.sl TPair x34)]))], ofList false [(1790, true), (1, true), (3, true)]⟩
noncomputable def lForms.go  (m : Nat) (x0 : (List (El TStatus))) (x1 : (List (El TStatus))) (x2 : (El TStatus)) (x3 : (El THost)) (x4 : Int) (x5 : Int) : R := run (lForms.cfg ) 110 lForms.rs m [.code lForms.body] (enter (ivA lForms.ps (x0, x1, x2, x3, x4, x5, ())))
theorem lForms.start  (m : Nat) (x0 : (List (El TStatus))) (x1 : (List (El TStatus))) (x2 : (El TStatus)) (x3 : (El THost)) (x4 : Int) (x5 : Int) : lForms.go  (m + 1) x0 x1 x2 x3 x4 x5 =
  test (lightS16.pre (x0, Unit.unit)) (
   test (lightS16.pre (x1, Unit.unit)) (
    test (light.pre (x2.1, Unit.unit)) (
     test (light.pre (x3, Unit.unit)) (
      cond (decide ((IntKind.i64.wrap ((IntKind.i64.wrap ((IntKind.i64.wrap ((lightL x0) + (lightL x1))) + (lightI x2.1))) + (lightI x3))) > (0 : Int))) (
       some ((.c (.v (.bool true))), [])) (
       lForms.l1  m x0 x1 x4 x5 x0 ((List.length x0) : Int) (0 : Int) ([] : List (El THost)) x2.1.1 x2.1.2.1 x2.1.2.2.1 x2.1.2.2.2.1 x2.1.2.2.2.2.1 x2.1.2.2.2.2.2 x2.2.1.1 x2.2.1.2.1 x2.2.1.2.2.1 x2.2.1.2.2.2 x2.2.2.1 x2.2.2.2.1.1 x2.2.2.2.1.2 x2.2.2.2.2.1.1 x2.2.2.2.2.1.2.1 x2.2.2.2.2.1.2.2.1 x2.2.2.2.2.1.2.2.2 x2.2.2.2.2.2.1 x2.2.2.2.2.2.2.1 x2.2.2.2.2.2.2.2.1 x2.2.2.2.2.2.2.2.2 x3.1 x3.2.1 x3.2.2.1 x3.2.2.2.1 x3.2.2.2.2.1 x3.2.2.2.2.2))))) := by kernel_rfl
theorem lForms.s1  (m : Nat) (x0 : List (El TStatus)) (x1 : List (El TStatus)) (x2 : Int) (x3 : Int) (x4 : List (El TStatus)) (x5 : Int) (x6 : Int) (x7 : List (El THost)) (x8 : Int) (x9 : ByteArray) (x10 : Int) (x11 : ByteArray) (x12 : Int) (x13 : List (El TPair)) (x14 : Bool) (x15 : Int) (x16 : Int) (x17 : Int) (x18 : Int) (x19 : Int) (x20 : Int) (x21 : Bool) (x22 : Int) (x23 : Int) (x24 : Int) (x25 : Bool) (x26 : Int) (x27 : Int) (x28 : Int) (x29 : Int) (x30 : ByteArray) (x31 : Int) (x32 : ByteArray) (x33 : Int) (x34 : List (El TPair)) : lForms.l1  (m + 1) x0 x1 x2 x3 x4 x5 x6 x7 x8 x9 x10 x11 x12 x13 x14 x15 x16 x17 x18 x19 x20 x21 x22 x23 x24 x25 x26 x27 x28 x29 x30 x31 x32 x33 x34 =
  cond (decide (x6 < x5)) (
   test (decide ((0 : Int) ≤ x6)) (
    test (decide (x6 < ((List.length x4) : Int))) (
     test (decide (((List.length x7) + (List.length (((rdEl TStatus x4 (Int.toNat x6))).1 :: ([] : List (El THost))))) ≤ (lim 80))) (
      lForms.l1  m x0 x1 x2 x3 x4 x5 (IntKind.i64.wrap (x6 + (1 : Int))) (x7 ++ (((rdEl TStatus x4 (Int.toNat x6))).1 :: ([] : List (El THost)))) x8 x9 x10 x11 x12 x13 x14 x15 x16 x17 x18 x19 x20 x21 x22 x23 x24 x25 x26 x27 x28 x29 x30 x31 x32 x33 x34)))) (
   test (newS.pre ((x29, (x30, (x31, (x32, (x33, x34))))), (x2, Unit.unit))) (
    test (newR.pre ((x29, (x30, (x31, (x32, (x33, x34))))), (x2, Unit.unit))) (
     test (sameOR.pre (((newB (x29, (x30, (x31, (x32, (x33, x34))))) x2)), (((newB (x29, (x30, (x31, (x32, (x33, x34))))) x2)), Unit.unit))) (
      cond (sameOB ((newB (x29, (x30, (x31, (x32, (x33, x34))))) x2)) ((newB (x29, (x30, (x31, (x32, (x33, x34))))) x2))) (
       test (mayS.pre (x0, Unit.unit)) (
        test (maySR.pre (x0, Unit.unit)) (
         cond ((maySB x0) == (maySB x0)) (
          test (find.pre (x0, (x3, Unit.unit))) (
           test (findR.pre (x0, (x3, Unit.unit))) (
            cond ((ixOf (idIs x3) x0) == (ixOf (idIs x3) x0)) (
             test (free.pre (((x8, (x9, (x10, (x11, (x12, x13))))), ((x14, (x15, (x16, x17))), (x18, ((x19, x20), ((x21, (x22, (x23, x24))), (x25, (x26, (x27, x28)))))))), Unit.unit)) (
              test (freeR.pre (((x8, (x9, (x10, (x11, (x12, x13))))), ((x14, (x15, (x16, x17))), (x18, ((x19, x20), ((x21, (x22, (x23, x24))), (x25, (x26, (x27, x28)))))))), Unit.unit)) (
               cond ((freeB ((x8, (x9, (x10, (x11, (x12, x13))))), ((x14, (x15, (x16, x17))), (x18, ((x19, x20), ((x21, (x22, (x23, x24))), (x25, (x26, (x27, x28))))))))) == (freeB ((x8, (x9, (x10, (x11, (x12, x13))))), ((x14, (x15, (x16, x17))), (x18, ((x19, x20), ((x21, (x22, (x23, x24))), (x25, (x26, (x27, x28)))))))))) (
                test (members.pre (x0, Unit.unit)) (
                 test (membersR.pre (x0, Unit.unit)) (
                  test (sameSR.pre ((List.filter memB x0), ((List.filter memB x0), Unit.unit))) (
                   cond (sameSB (List.filter memB x0) (List.filter memB x0)) (
                    test (outs.pre (x0, Unit.unit)) (
                     test (outsR.pre (x0, Unit.unit)) (
                      cond (((List.length (List.filter outB x0)) : Int) == ((List.length (List.filter outB x0)) : Int)) (
                       test (sameS.pre (x0, (x1, Unit.unit))) (
                        test (sameSR.pre (x0, (x1, Unit.unit))) (
                         cond ((sameSB x0 x1) == (sameSB x0 x1)) (
                          test (copyS.pre (x0, Unit.unit)) (
                           test (sameSR.pre (x0, (x0, Unit.unit))) (
                            cond (sameSB x0 x0) (
                             test (hosts.pre (x0, Unit.unit)) (
                              test (sameHR.pre ((hostsL x0), (x7, Unit.unit))) (
                               cond (sameHB (hostsL x0) x7) (
                                some ((.c (.v (.bool true))), [])) (
                                some ((.c (.v (.bool false))), []))))) (
                             some ((.c (.v (.bool false))), []))))) (
                          some ((.c (.v (.bool false))), []))))) (
                       some ((.c (.v (.bool false))), []))))) (
                    some ((.c (.v (.bool false))), [])))))) (
                some ((.c (.v (.bool false))), []))))) (
             some ((.c (.v (.bool false))), []))))) (
          some ((.c (.v (.bool false))), []))))) (
       some ((.c (.v (.bool false))), [])))))) := by kernel_rfl
theorem lForms.run_eq  (m : Nat) (x0 : (List (El TStatus))) (x1 : (List (El TStatus))) (x2 : (El TStatus)) (x3 : (El THost)) (x4 : Int) (x5 : Int) : run (lForms.cfg ) Try.f7.ntmps Try.f7.results.toList m [.code (bodyOf Try.f7)] (enter (ivA lForms.ps (x0, x1, x2, x3, x4, x5, ()))) = lForms.go  m x0 x1 x2 x3 x4 x5 := by kernel_rfl
theorem lForms.ret  (hs : SpecsOK Try.prog (lForms.specs )) (x0 : (List (El TStatus))) (x1 : (List (El TStatus))) (x2 : (El TStatus)) (x3 : (El THost)) (x4 : Int) (x5 : Int) {m : Nat} {r : IV} (h : lForms.go  m x0 x1 x2 x3 x4 x5 = some (r, [])) : VE.Returns Try.prog 7 (ivA lForms.ps (x0, x1, x2, x3, x4, x5, ())) r :=
  returns_of_run (cfg := lForms.cfg ) (cfgOK_of mixed tab_ok hs) Try.func7 (body_some (by kernel_rfl)) (Nat.le_of_ble_eq_true (by kernel_rfl)) ((lForms.run_eq  m x0 x1 x2 x3 x4 x5).trans h)
abbrev lForms.Law : Prop := ∀ (x0 : (List (El TStatus))) (x1 : (List (El TStatus))) (x2 : (El TStatus)) (x3 : (El THost)) (x4 : Int) (x5 : Int), lForms.pre (x0, x1, x2, x3, x4, x5, ()) = true → VE.Returns Try.prog 7 (ivA lForms.ps (x0, x1, x2, x3, x4, x5, ())) (lForms.res (x0, x1, x2, x3, x4, x5, ()))
theorem lForms.mkR (H : ∀ (x0 : (List (El TStatus))) (x1 : (List (El TStatus))) (x2 : (El TStatus)) (x3 : (El THost)) (x4 : Int) (x5 : Int), lForms.pre (x0, x1, x2, x3, x4, x5, ()) = true → VE.Returns Try.prog 7 (ivA lForms.ps (x0, x1, x2, x3, x4, x5, ())) (lForms.res (x0, x1, x2, x3, x4, x5, ()))) : SpecOK Try.prog 7 lForms.sp :=
  specOf_ret Try.func7 (by kernel_rfl) (by kernel_rfl) fun (x : (List (El TStatus)) × (List (El TStatus)) × (El TStatus) × (El THost) × Int × Int × Unit) hx => H (x.1) (x.2.1) (x.2.2.1) (x.2.2.2.1) (x.2.2.2.2.1) (x.2.2.2.2.2.1) hx
theorem lForms.mk  (hs : SpecsOK Try.prog (lForms.specs )) (H : ∀ (x0 : (List (El TStatus))) (x1 : (List (El TStatus))) (x2 : (El TStatus)) (x3 : (El THost)) (x4 : Int) (x5 : Int), lForms.pre (x0, x1, x2, x3, x4, x5, ()) = true → ∃ m, lForms.go  m x0 x1 x2 x3 x4 x5 = some (lForms.res (x0, x1, x2, x3, x4, x5, ()), [])) : SpecOK Try.prog 7 lForms.sp :=
  lForms.mkR fun x0 x1 x2 x3 x4 x5 hx => (H x0 x1 x2 x3 x4 x5 hx).elim fun _ hm => lForms.ret  hs x0 x1 x2 x3 x4 x5 hm

end Go.Proofs.Ytdoilggfajngiaa
