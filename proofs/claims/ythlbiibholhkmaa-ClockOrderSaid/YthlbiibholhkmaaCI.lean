/-
  Steps of the bodies, from checkpoint to checkpoint (printed by wip/VE/mk2.py).
-/
import Derived.Test.YthlbiibholhkmaaCF
namespace Go.Proofs.Ythlbiibholhkmaa
open Go VE

/-! ### triage/triagelaw9.ClockOrder -/
abbrev lOrder.ps : List AK := [.d false (.sl TTimer), .d false (.int .i64)]
def lOrder.pre : ElA lOrder.ps → Bool := fun (x : (List (El TTimer)) × Int × Unit) => fits (.sl TTimer) (x.1) && (fits (.int .i64) (x.2.1) && (true))
def lOrder.res : ElA lOrder.ps → IV := fun (x : (List (El TTimer)) × Int × Unit) => (fun _ _ => vb true) x.1 x.2.1
def lOrder.sp : ISpec := spOf lOrder.ps lOrder.pre lOrder.res
abbrev lOrder.OK : Prop := SpecOK Try.prog 7 lOrder.sp
noncomputable def lOrder.body : Code := bodyOf Try.f7
noncomputable def lOrder.rs : List ResultVar := Try.f7.results.toList
def lOrder.live : List (Nat × Live) := [(33, ⟨[(5, .plain), (6, .plain), (161, .sl TTimer), (162, .plain), (163, .plain)], [(2049, []), (46145536, [.plain, .arr 27 TTimer])]⟩), (23, ⟨[(0, .sl TTimer), (1, .plain), (5, .plain), (6, .plain), (11, .plain), (12, .plain), (13, .plain), (14, .plain), (66, .plain), (67, .plain)], [(2049, []), (8705, []), (46145536, [.plain, .arr 27 TTimer])]⟩), (19, ⟨[(0, .sl TTimer), (1, .plain), (5, .plain), (6, .plain), (11, .plain), (66, .plain), (67, .plain)], [(2049, []), (8705, []), (46145536, [.plain, .arr 27 TTimer])]⟩), (6, ⟨[(0, .sl TTimer), (1, .plain), (5, .plain), (6, .plain), (25, .sl TTimer), (26, .plain), (27, .plain)], [(2049, []), (46145536, [.plain, .arr 27 TTimer])]⟩)]
noncomputable def lOrder.specs  : List (Nat × (List Bool × ISpec)) := [(9, ([], awake.sp)), (11, ([], now.sp))]
noncomputable def lOrder.ospecs  : List (Nat × OS) := [(10, ⟨[], [], new.sp⟩), (12, ⟨[some (.obj [.plain, .arr 27 TTimer])], [], put.sp⟩), (13, ⟨[some (.obj [.plain, .arr 27 TTimer])], [], due.sp⟩), (22, ⟨[some (.obj [.plain, .arr 27 TTimer])], [], when.sp⟩), (14, ⟨[some (.obj [.plain, .arr 27 TTimer])], [], goTo.sp⟩), (15, ⟨[some (.obj [.plain, .arr 27 TTimer])], [], allT.sp⟩)]
noncomputable def lOrder.cfg  : Cfg := ⟨lkp tab, lkp (lOrder.specs ), lkp lOrder.live, ⟨lkp (lOrder.ospecs ), [], none, false, []⟩⟩
noncomputable def lOrder.l1  (m : Nat) (x0 : List (El TTimer)) (x1 : Int) (x2 : List (El TTimer)) (x3 : Int) (x4 : Int) (x5 : List ((El TTimer) × Int × Nat)) (x6 : Nat) (x7 : Int) (x8 : List (El TTimer)) : R := run (lOrder.cfg ) 190 lOrder.rs m ((todoR 6 lOrder.body []).getD []) ⟨ofList (.c .junk) [(0, (.c (.sl TTimer x0))), (1, (.c (.v (.int .i64 x1)))), (5, (.c (.ref 46145536 0))), (6, (.c (.mref 2049))), (25, (.c (.sl TTimer x2))), (26, (.c (.v (.int .i64 x3)))), (27, (.c (.v (.int .i64 x4))))], ofList none [(2049, some (.map TTimer (.int .i64) x5 x6)), (46145536, some (.cells 55 [(.v (.int .i64 x7)), (.sref 5906756610)])), (5906756610, some (.arr 27 TTimer x8 false))], ofList false [(2049, true), (46145536, true), (5906756610, true)]⟩
noncomputable def lOrder.l2  (m : Nat) (x0 : List (El TTimer)) (x1 : Int) (x2 : Int) (x3 : Int) (x4 : Int) (x5 : List ((El TTimer) × Int × Nat)) (x6 : Nat) (x7 : Int) (x8 : Int) (x9 : Int) (x10 : Int) (x11 : List (El TTimer)) : R := run (lOrder.cfg ) 190 lOrder.rs m ((todoR 19 lOrder.body []).getD []) ⟨ofList (.c .junk) [(0, (.c (.sl TTimer x0))), (1, (.c (.v (.int .i64 x1)))), (5, (.c (.ref 46145536 0))), (6, (.c (.mref 2049))), (11, (.c (.ref 8705 0))), (66, (.agg [(.v (.int .i64 x2)), (.v (.int .i64 x3))])), (67, (.c (.v (.int .i64 x4))))], ofList none [(2049, some (.map TTimer (.int .i64) x5 x6)), (8705, some (.cells 27 [(.v (.int .i64 x7)), (.v (.int .i64 x8)), (.v (.int .i64 x9))])), (46145536, some (.cells 55 [(.v (.int .i64 x10)), (.sref 5906756610)])), (5906756610, some (.arr 27 TTimer x11 false))], ofList false [(2049, true), (8705, true), (46145536, true), (5906756610, true)]⟩
noncomputable def lOrder.l3  (m : Nat) (x0 : List (El TTimer)) (x1 : Int) (x2 : Int) (x3 : Int) (x4 : Int) (x5 : Int) (x6 : Int) (x7 : Int) (x8 : List ((El TTimer) × Int × Nat)) (x9 : Nat) (x10 : Int) (x11 : Int) (x12 : Int) (x13 : Int) (x14 : List (El TTimer)) : R := run (lOrder.cfg ) 190 lOrder.rs m ((todoR 23 lOrder.body []).getD []) ⟨ofList (.c .junk) [(0, (.c (.sl TTimer x0))), (1, (.c (.v (.int .i64 x1)))), (5, (.c (.ref 46145536 0))), (6, (.c (.mref 2049))), (11, (.c (.ref 8705 0))), (12, (.c (.v (.int .i64 x2)))), (13, (.c (.v (.int .i64 x3)))), (14, (.c (.v (.int .i64 x4)))), (66, (.agg [(.v (.int .i64 x5)), (.v (.int .i64 x6))])), (67, (.c (.v (.int .i64 x7))))], ofList none [(2049, some (.map TTimer (.int .i64) x8 x9)), (8705, some (.cells 27 [(.v (.int .i64 x10)), (.v (.int .i64 x11)), (.v (.int .i64 x12))])), (46145536, some (.cells 55 [(.v (.int .i64 x13)), (.sref 5906756610)])), (5906756610, some (.arr 27 TTimer x14 false))], ofList false [(2049, true), (8705, true), (46145536, true), (5906756610, true)]⟩
noncomputable def lOrder.l4  (m : Nat) (x0 : List (El TTimer)) (x1 : Int) (x2 : Int) (x3 : List ((El TTimer) × Int × Nat)) (x4 : Nat) (x5 : Int) (x6 : List (El TTimer)) : R := run (lOrder.cfg ) 190 lOrder.rs m ((todoR 33 lOrder.body []).getD []) ⟨ofList (.c .junk) [(5, (.c (.ref 46145536 0))), (6, (.c (.mref 2049))), (161, (.c (.sl TTimer x0))), (162, (.c (.v (.int .i64 x1)))), (163, (.c (.v (.int .i64 x2))))], ofList none [(2049, some (.map TTimer (.int .i64) x3 x4)), (46145536, some (.cells 55 [(.v (.int .i64 x5)), (.sref 5906756610)])), (5906756610, some (.arr 27 TTimer x6 false))], ofList false [(2049, true), (46145536, true), (5906756610, true)]⟩
noncomputable def lOrder.go  (m : Nat) (x0 : (List (El TTimer))) (x1 : Int) : R := run (lOrder.cfg ) 190 lOrder.rs m [.code lOrder.body] (enter (ivA lOrder.ps (x0, x1, ())))
theorem lOrder.start  (m : Nat) (x0 : (List (El TTimer))) (x1 : Int) : lOrder.go  (m + 1) x0 x1 =
  cond (decide (((List.length x0) : Int) > (100 : Int))) (
   some ((.c (.v (.bool true))), [])) (
   lOrder.l1  m x0 x1 x0 ((List.length x0) : Int) (0 : Int) [] 0 (timeC (0 : Int)) ([] : List (El TTimer))) := by kernel_rfl
theorem lOrder.s1  (m : Nat) (x0 : List (El TTimer)) (x1 : Int) (x2 : List (El TTimer)) (x3 : Int) (x4 : Int) (x5 : List ((El TTimer) × Int × Nat)) (x6 : Nat) (x7 : Int) (x8 : List (El TTimer)) : lOrder.l1  (m + 1) x0 x1 x2 x3 x4 x5 x6 x7 x8 =
  cond (decide (x4 < x3)) (
   test (decide ((0 : Int) ≤ x4)) (
    test (decide (x4 < ((List.length x2) : Int))) (
     test (when.pre ((x7, x8), ((((rdEl TTimer x2 (Int.toNat x4))).2).1, ((((rdEl TTimer x2 (Int.toNat x4))).2).2, Unit.unit)))) (
      cond (hasK x8 (((rdEl TTimer x2 (Int.toNat x4))).2).1 (((rdEl TTimer x2 (Int.toNat x4))).2).2) (
       test (put.pre ((x7, x8), (((IntKind.i64.wrap (Int.tmod (IntKind.u64.wrap ((rdEl TTimer x2 (Int.toNat x4))).1) (1000 : Int))), ((rdEl TTimer x2 (Int.toNat x4))).2), Unit.unit))) (
        cond (Bool.not (setOk (x7, x8) ((IntKind.i64.wrap (Int.tmod (IntKind.u64.wrap ((rdEl TTimer x2 (Int.toNat x4))).1) (1000 : Int))), ((rdEl TTimer x2 (Int.toNat x4))).2))) (
         some ((.c (.v (.bool false))), [])) (
         lOrder.l1  m x0 x1 x2 x3 (IntKind.i64.wrap (x4 + (1 : Int))) (setE TTimer (.int .i64) (clockE TTimer (.int .i64) x6 ((atI (x7, x8) (((rdEl TTimer x2 (Int.toNat x4))).2).1 (((rdEl TTimer x2 (Int.toNat x4))).2).2), ((rdEl TTimer x2 (Int.toNat x4))).2) x5) ((IntKind.i64.wrap (Int.tmod (IntKind.u64.wrap ((rdEl TTimer x2 (Int.toNat x4))).1) (1000 : Int))), ((rdEl TTimer x2 (Int.toNat x4))).2) (1 : Int) (setE TTimer (.int .i64) x6 ((atI (x7, x8) (((rdEl TTimer x2 (Int.toNat x4))).2).1 (((rdEl TTimer x2 (Int.toNat x4))).2).2), ((rdEl TTimer x2 (Int.toNat x4))).2) (0 : Int) x5)) (clockE TTimer (.int .i64) (clockE TTimer (.int .i64) x6 ((atI (x7, x8) (((rdEl TTimer x2 (Int.toNat x4))).2).1 (((rdEl TTimer x2 (Int.toNat x4))).2).2), ((rdEl TTimer x2 (Int.toNat x4))).2) x5) ((IntKind.i64.wrap (Int.tmod (IntKind.u64.wrap ((rdEl TTimer x2 (Int.toNat x4))).1) (1000 : Int))), ((rdEl TTimer x2 (Int.toNat x4))).2) (setE TTimer (.int .i64) x6 ((atI (x7, x8) (((rdEl TTimer x2 (Int.toNat x4))).2).1 (((rdEl TTimer x2 (Int.toNat x4))).2).2), ((rdEl TTimer x2 (Int.toNat x4))).2) (0 : Int) x5)) ((setC (x7, x8) ((IntKind.i64.wrap (Int.tmod (IntKind.u64.wrap ((rdEl TTimer x2 (Int.toNat x4))).1) (1000 : Int))), ((rdEl TTimer x2 (Int.toNat x4))).2))).1 ((setC (x7, x8) ((IntKind.i64.wrap (Int.tmod (IntKind.u64.wrap ((rdEl TTimer x2 (Int.toNat x4))).1) (1000 : Int))), ((rdEl TTimer x2 (Int.toNat x4))).2))).2))) (
       test (put.pre ((x7, x8), (((IntKind.i64.wrap (Int.tmod (IntKind.u64.wrap ((rdEl TTimer x2 (Int.toNat x4))).1) (1000 : Int))), ((rdEl TTimer x2 (Int.toNat x4))).2), Unit.unit))) (
        cond (Bool.not (setOk (x7, x8) ((IntKind.i64.wrap (Int.tmod (IntKind.u64.wrap ((rdEl TTimer x2 (Int.toNat x4))).1) (1000 : Int))), ((rdEl TTimer x2 (Int.toNat x4))).2))) (
         some ((.c (.v (.bool false))), [])) (
         lOrder.l1  m x0 x1 x2 x3 (IntKind.i64.wrap (x4 + (1 : Int))) (setE TTimer (.int .i64) x6 ((IntKind.i64.wrap (Int.tmod (IntKind.u64.wrap ((rdEl TTimer x2 (Int.toNat x4))).1) (1000 : Int))), ((rdEl TTimer x2 (Int.toNat x4))).2) (1 : Int) x5) (clockE TTimer (.int .i64) x6 ((IntKind.i64.wrap (Int.tmod (IntKind.u64.wrap ((rdEl TTimer x2 (Int.toNat x4))).1) (1000 : Int))), ((rdEl TTimer x2 (Int.toNat x4))).2) x5) ((setC (x7, x8) ((IntKind.i64.wrap (Int.tmod (IntKind.u64.wrap ((rdEl TTimer x2 (Int.toNat x4))).1) (1000 : Int))), ((rdEl TTimer x2 (Int.toNat x4))).2))).1 ((setC (x7, x8) ((IntKind.i64.wrap (Int.tmod (IntKind.u64.wrap ((rdEl TTimer x2 (Int.toNat x4))).1) (1000 : Int))), ((rdEl TTimer x2 (Int.toNat x4))).2))).2))))))) (
   lOrder.l2  m x0 (IntKind.i64.wrap (Int.tmod (IntKind.u64.wrap x1) (1000 : Int))) (IntKind.i64.wrap (Int.tmod (IntKind.u64.wrap x1) (1000 : Int))) (2000 : Int) (0 : Int) x5 x6 (0 : Int) (0 : Int) (0 : Int) x7 x8) := by kernel_rfl
theorem lOrder.s2  (m : Nat) (x0 : List (El TTimer)) (x1 : Int) (x2 : Int) (x3 : Int) (x4 : Int) (x5 : List ((El TTimer) × Int × Nat)) (x6 : Nat) (x7 : Int) (x8 : Int) (x9 : Int) (x10 : Int) (x11 : List (El TTimer)) : lOrder.l2  (m + 1) x0 x1 x2 x3 x4 x5 x6 x7 x8 x9 x10 x11 =
  cond (decide (x4 < (2 : Int))) (
   test (decide ((0 : Int) ≤ x4)) (
    test (decide (x4 < (2 : Int))) (
     lOrder.l3  m x0 x1 x4 (rdEl (.int .i64) (x2 :: (x3 :: ([] : List Int))) (Int.toNat x4)) (0 : Int) x2 x3 x4 x5 x6 x7 x8 x9 x10 x11))) (
   lOrder.l4  m x0 ((List.length x0) : Int) (0 : Int) x5 x6 x10 x11) := by kernel_rfl
theorem lOrder.s3  (m : Nat) (x0 : List (El TTimer)) (x1 : Int) (x2 : Int) (x3 : Int) (x4 : Int) (x5 : Int) (x6 : Int) (x7 : Int) (x8 : List ((El TTimer) × Int × Nat)) (x9 : Nat) (x10 : Int) (x11 : Int) (x12 : Int) (x13 : Int) (x14 : List (El TTimer)) : lOrder.l3  (m + 1) x0 x1 x2 x3 x4 x5 x6 x7 x8 x9 x10 x11 x12 x13 x14 =
  test (due.pre ((x13, x14), (x3, Unit.unit))) (
   cond (Bool.not (dueB (x13, x14) x3)) (
    test (goTo.pre (((nextC (x13, x14) x3)), (x3, Unit.unit))) (
     cond (Bool.not (goB ((nextC (x13, x14) x3)) x3)) (
      some ((.c (.v (.bool false))), [])) (
      lOrder.l2  m x0 x1 x5 x6 (IntKind.i64.wrap (x7 + (1 : Int))) x8 x9 x10 x11 x12 ((goC ((nextC (x13, x14) x3)) x3)).1 ((goC ((nextC (x13, x14) x3)) x3)).2))) (
    cond (decide (x4 > (200 : Int))) (
     some ((.c (.v (.bool false))), [])) (
     cond (decide (((nextT (x13, x14) x3)).1 > x3)) (
      some ((.c (.v (.bool false))), [])) (
      cond (x2 == (1 : Int)) (
       cond (decide (((nextT (x13, x14) x3)).1 ≤ x1)) (
        some ((.c (.v (.bool false))), [])) (
        cond (bne (getE TTimer (.int .i64) (0 : Int) ((nextT (x13, x14) x3)) x8) (1 : Int)) (
         some ((.c (.v (.bool false))), [])) (
         test (now.pre (((nextC (x13, x14) x3)), Unit.unit)) (
          cond (bne ((nextC (x13, x14) x3)).1 ((nextT (x13, x14) x3)).1) (
           some ((.c (.v (.bool false))), [])) (
           cond (decide (((nextT (x13, x14) x3)).1 < x10)) (
            some ((.c (.v (.bool false))), [])) (
            cond (((nextT (x13, x14) x3)).1 == x10) (
             cond (decide ((((nextT (x13, x14) x3)).2).1 < x11)) (
              cond ((getE TTimer (.int .i64) (0 : Int) (x10, (x11, x12)) x8) == (2 : Int)) (
               some ((.c (.v (.bool false))), [])) (
               lOrder.l3  m x0 x1 x2 x3 (IntKind.i64.wrap (x4 + (1 : Int))) x5 x6 x7 (setE TTimer (.int .i64) x9 ((nextT (x13, x14) x3)) (2 : Int) x8) (clockE TTimer (.int .i64) x9 ((nextT (x13, x14) x3)) x8) ((nextT (x13, x14) x3)).1 (((nextT (x13, x14) x3)).2).1 (((nextT (x13, x14) x3)).2).2 ((nextC (x13, x14) x3)).1 ((nextC (x13, x14) x3)).2)) (
              cond ((((nextT (x13, x14) x3)).2).1 == x11) (
               cond (decide ((((nextT (x13, x14) x3)).2).2 ≤ x12)) (
                cond ((getE TTimer (.int .i64) (0 : Int) (x10, (x11, x12)) x8) == (2 : Int)) (
                 some ((.c (.v (.bool false))), [])) (
                 lOrder.l3  m x0 x1 x2 x3 (IntKind.i64.wrap (x4 + (1 : Int))) x5 x6 x7 (setE TTimer (.int .i64) x9 ((nextT (x13, x14) x3)) (2 : Int) x8) (clockE TTimer (.int .i64) x9 ((nextT (x13, x14) x3)) x8) ((nextT (x13, x14) x3)).1 (((nextT (x13, x14) x3)).2).1 (((nextT (x13, x14) x3)).2).2 ((nextC (x13, x14) x3)).1 ((nextC (x13, x14) x3)).2)) (
                lOrder.l3  m x0 x1 x2 x3 (IntKind.i64.wrap (x4 + (1 : Int))) x5 x6 x7 (setE TTimer (.int .i64) x9 ((nextT (x13, x14) x3)) (2 : Int) x8) (clockE TTimer (.int .i64) x9 ((nextT (x13, x14) x3)) x8) ((nextT (x13, x14) x3)).1 (((nextT (x13, x14) x3)).2).1 (((nextT (x13, x14) x3)).2).2 ((nextC (x13, x14) x3)).1 ((nextC (x13, x14) x3)).2)) (
               lOrder.l3  m x0 x1 x2 x3 (IntKind.i64.wrap (x4 + (1 : Int))) x5 x6 x7 (setE TTimer (.int .i64) x9 ((nextT (x13, x14) x3)) (2 : Int) x8) (clockE TTimer (.int .i64) x9 ((nextT (x13, x14) x3)) x8) ((nextT (x13, x14) x3)).1 (((nextT (x13, x14) x3)).2).1 (((nextT (x13, x14) x3)).2).2 ((nextC (x13, x14) x3)).1 ((nextC (x13, x14) x3)).2))) (
             lOrder.l3  m x0 x1 x2 x3 (IntKind.i64.wrap (x4 + (1 : Int))) x5 x6 x7 (setE TTimer (.int .i64) x9 ((nextT (x13, x14) x3)) (2 : Int) x8) (clockE TTimer (.int .i64) x9 ((nextT (x13, x14) x3)) x8) ((nextT (x13, x14) x3)).1 (((nextT (x13, x14) x3)).2).1 (((nextT (x13, x14) x3)).2).2 ((nextC (x13, x14) x3)).1 ((nextC (x13, x14) x3)).2))))))) (
       cond (bne (getE TTimer (.int .i64) (0 : Int) ((nextT (x13, x14) x3)) x8) (1 : Int)) (
        some ((.c (.v (.bool false))), [])) (
        test (now.pre (((nextC (x13, x14) x3)), Unit.unit)) (
         cond (bne ((nextC (x13, x14) x3)).1 ((nextT (x13, x14) x3)).1) (
          some ((.c (.v (.bool false))), [])) (
          cond (decide (((nextT (x13, x14) x3)).1 < x10)) (
           some ((.c (.v (.bool false))), [])) (
           cond (((nextT (x13, x14) x3)).1 == x10) (
            cond (decide ((((nextT (x13, x14) x3)).2).1 < x11)) (
             cond ((getE TTimer (.int .i64) (0 : Int) (x10, (x11, x12)) x8) == (2 : Int)) (
              some ((.c (.v (.bool false))), [])) (
              lOrder.l3  m x0 x1 x2 x3 (IntKind.i64.wrap (x4 + (1 : Int))) x5 x6 x7 (setE TTimer (.int .i64) x9 ((nextT (x13, x14) x3)) (2 : Int) x8) (clockE TTimer (.int .i64) x9 ((nextT (x13, x14) x3)) x8) ((nextT (x13, x14) x3)).1 (((nextT (x13, x14) x3)).2).1 (((nextT (x13, x14) x3)).2).2 ((nextC (x13, x14) x3)).1 ((nextC (x13, x14) x3)).2)) (
             cond ((((nextT (x13, x14) x3)).2).1 == x11) (
              cond (decide ((((nextT (x13, x14) x3)).2).2 ≤ x12)) (
               cond ((getE TTimer (.int .i64) (0 : Int) (x10, (x11, x12)) x8) == (2 : Int)) (
                some ((.c (.v (.bool false))), [])) (
                lOrder.l3  m x0 x1 x2 x3 (IntKind.i64.wrap (x4 + (1 : Int))) x5 x6 x7 (setE TTimer (.int .i64) x9 ((nextT (x13, x14) x3)) (2 : Int) x8) (clockE TTimer (.int .i64) x9 ((nextT (x13, x14) x3)) x8) ((nextT (x13, x14) x3)).1 (((nextT (x13, x14) x3)).2).1 (((nextT (x13, x14) x3)).2).2 ((nextC (x13, x14) x3)).1 ((nextC (x13, x14) x3)).2)) (
               lOrder.l3  m x0 x1 x2 x3 (IntKind.i64.wrap (x4 + (1 : Int))) x5 x6 x7 (setE TTimer (.int .i64) x9 ((nextT (x13, x14) x3)) (2 : Int) x8) (clockE TTimer (.int .i64) x9 ((nextT (x13, x14) x3)) x8) ((nextT (x13, x14) x3)).1 (((nextT (x13, x14) x3)).2).1 (((nextT (x13, x14) x3)).2).2 ((nextC (x13, x14) x3)).1 ((nextC (x13, x14) x3)).2)) (
              lOrder.l3  m x0 x1 x2 x3 (IntKind.i64.wrap (x4 + (1 : Int))) x5 x6 x7 (setE TTimer (.int .i64) x9 ((nextT (x13, x14) x3)) (2 : Int) x8) (clockE TTimer (.int .i64) x9 ((nextT (x13, x14) x3)) x8) ((nextT (x13, x14) x3)).1 (((nextT (x13, x14) x3)).2).1 (((nextT (x13, x14) x3)).2).2 ((nextC (x13, x14) x3)).1 ((nextC (x13, x14) x3)).2))) (
            lOrder.l3  m x0 x1 x2 x3 (IntKind.i64.wrap (x4 + (1 : Int))) x5 x6 x7 (setE TTimer (.int .i64) x9 ((nextT (x13, x14) x3)) (2 : Int) x8) (clockE TTimer (.int .i64) x9 ((nextT (x13, x14) x3)) x8) ((nextT (x13, x14) x3)).1 (((nextT (x13, x14) x3)).2).1 (((nextT (x13, x14) x3)).2).2 ((nextC (x13, x14) x3)).1 ((nextC (x13, x14) x3)).2)))))))))) := by kernel_rfl
theorem lOrder.s4  (m : Nat) (x0 : List (El TTimer)) (x1 : Int) (x2 : Int) (x3 : List ((El TTimer) × Int × Nat)) (x4 : Nat) (x5 : Int) (x6 : List (El TTimer)) : lOrder.l4  (m + 1) x0 x1 x2 x3 x4 x5 x6 =
  cond (decide (x2 < x1)) (
   test (decide ((0 : Int) ≤ x2)) (
    test (decide (x2 < ((List.length x0) : Int))) (
     cond ((getE TTimer (.int .i64) (0 : Int) ((IntKind.i64.wrap (Int.tmod (IntKind.u64.wrap ((rdEl TTimer x0 (Int.toNat x2))).1) (1000 : Int))), ((rdEl TTimer x0 (Int.toNat x2))).2) x3) == (1 : Int)) (
      some ((.c (.v (.bool false))), [])) (
      lOrder.l4  m x0 x1 (IntKind.i64.wrap (x2 + (1 : Int))) x3 x4 x5 x6)))) (
   test (allT.pre ((x5, x6), Unit.unit)) (
    cond (((List.length x6) : Int) == (0 : Int)) (
     test (now.pre ((x5, x6), Unit.unit)) (
      cond (x5 == (2000 : Int)) (
       some ((.c (.v (.bool true))), [])) (
       some ((.c (.v (.bool false))), [])))) (
     some ((.c (.v (.bool false))), [])))) := by kernel_rfl
theorem lOrder.run_eq  (m : Nat) (x0 : (List (El TTimer))) (x1 : Int) : run (lOrder.cfg ) Try.f7.ntmps Try.f7.results.toList m [.code (bodyOf Try.f7)] (enter (ivA lOrder.ps (x0, x1, ()))) = lOrder.go  m x0 x1 := by kernel_rfl
theorem lOrder.ret  (hs : SpecsOK Try.prog (lOrder.specs )) (ho : OSpecsOK Try.prog (lOrder.ospecs )) (x0 : (List (El TTimer))) (x1 : Int) {m : Nat} {r : IV} (h : lOrder.go  m x0 x1 = some (r, [])) : VE.Returns Try.prog 7 (ivA lOrder.ps (x0, x1, ())) r :=
  returns_of_run (cfg := lOrder.cfg ) (cfgOK_of mixed tab_ok hs ho) rfl Try.func7 (body_some (by kernel_rfl)) (Nat.le_of_ble_eq_true (by kernel_rfl)) ((lOrder.run_eq  m x0 x1).trans h)
abbrev lOrder.Law : Prop := ∀ (x0 : (List (El TTimer))) (x1 : Int), lOrder.pre (x0, x1, ()) = true → VE.Returns Try.prog 7 (ivA lOrder.ps (x0, x1, ())) (lOrder.res (x0, x1, ()))
theorem lOrder.mkR (H : ∀ (x0 : (List (El TTimer))) (x1 : Int), lOrder.pre (x0, x1, ()) = true → VE.Returns Try.prog 7 (ivA lOrder.ps (x0, x1, ())) (lOrder.res (x0, x1, ()))) : SpecOK Try.prog 7 lOrder.sp :=
  specOf_ret Try.func7 (by kernel_rfl) (by kernel_rfl) fun (x : (List (El TTimer)) × Int × Unit) hx => H (x.1) (x.2.1) hx
theorem lOrder.mk  (hs : SpecsOK Try.prog (lOrder.specs )) (ho : OSpecsOK Try.prog (lOrder.ospecs )) (H : ∀ (x0 : (List (El TTimer))) (x1 : Int), lOrder.pre (x0, x1, ()) = true → ∃ m, lOrder.go  m x0 x1 = some (lOrder.res (x0, x1, ()), [])) : SpecOK Try.prog 7 lOrder.sp :=
  lOrder.mkR fun x0 x1 hx => (H x0 x1 hx).elim fun _ hm => lOrder.ret  hs ho x0 x1 hm

end Go.Proofs.Ythlbiibholhkmaa
