/-
  Configurations: steps printed; a text is read; the document's text.
-/
import Derived.Test.YtlakpbfmcnlnbaaDoorLC
import Derived.Test.YtlakpbfmcnlnbaaDoorLE
namespace Go.Proofs.YtlakpbfmcnlnbaaDoor
open Go VE

/-! ### triage/config.Parse -/
abbrev parse.ps : List AK := [.d false .str]
def parse.pre : ElA parse.ps → Bool := fun (x : ByteArray × Unit) => fits .str (x.1) && ((fun s => decide (ByteArray.size s ≤ 1000000)) x.1 && (true))
noncomputable def parse.res : ElA parse.ps → IV := fun (x : ByteArray × Unit) => (fun s => .tup [mkIV true (enc TConfig (parseC s).1), vi .i64 (parseC s).2.1, vi .i64 (parseC s).2.2]) x.1
noncomputable def parse.sp : ISpec := spOf parse.ps parse.pre parse.res
abbrev parse.OK : Prop := SpecOK Tryd.prog 11 parse.sp
noncomputable def parse.body : Code := bodyOf Tryd.f11
noncomputable def parse.rs : List ResultVar := Tryd.f11.results.toList
def parse.live : List (Nat × Live) := [(7, ⟨[(2, .plain), (8, .plain), (9, .plain), (25, .sl TLine), (26, .plain), (27, .plain)], [(1, []), (2051, []), (2561, [])]⟩)]
noncomputable def parse.specs  : List (Nat × (List Bool × ISpec)) := [(21, ([], split.sp)), (17, ([], cDef.sp))]
noncomputable def parse.ospecs  : List (Nat × OS) := [(22, ⟨[some (.obj [.plain, .plain, .plain, .plain, .plain, .plain, .plain, .plain, .plain, .plain, .plain, .plain, .plain, .plain, .plain, .plain, .plain, .plain, .plain, .plain, .plain, .plain, .plain])], [], set.sp⟩)]
noncomputable def parse.cfg  : Cfg := ⟨lkp tab, lkp (parse.specs ), lkp parse.live, ⟨lkp (parse.ospecs ), [], none, false, []⟩⟩
noncomputable def parse.l1  (m : Nat) (x0 : List (El TLine)) (x1 : Int) (x2 : Int) (x3 : Int) (x4 : Int) (x5 : Int) (x6 : Int) (x7 : Int) (x8 : Int) (x9 : Int) (x10 : Int) (x11 : Int) (x12 : Int) (x13 : Int) (x14 : Int) (x15 : Int) (x16 : Int) (x17 : Int) (x18 : Bool) (x19 : Int) (x20 : Int) (x21 : Int) (x22 : Int) (x23 : Int) (x24 : ByteArray) (x25 : Bool) (x26 : Int) (x27 : Int) (x28 : Int) (x29 : Int) (x30 : Int) (x31 : Int) (x32 : Int) (x33 : Int) (x34 : Int) (x35 : Int) (x36 : Int) (x37 : Int) (x38 : Int) (x39 : Int) (x40 : Int) (x41 : Bool) (x42 : Int) (x43 : Int) (x44 : Int) (x45 : Int) (x46 : Int) (x47 : ByteArray) (x48 : Bool) (x49 : List (ByteArray × Int × Nat)) (x50 : Nat) : R := run (parse.cfg ) 68 parse.rs m ((todoR 7 parse.body []).getD []) ⟨ofList (.c .junk) [(2, (.c (.ref 1 0))), (8, (.c (.ref 2051 0))), (9, (.c (.mref 2561))), (25, (.c (.sl TLine x0))), (26, (.c (.v (.int .i64 x1)))), (27, (.c (.v (.int .i64 x2))))], ofList none [(1, some (.cells 23 [(.v (.int .i64 x3)), (.v (.int .i64 x4)), (.v (.int .i64 x5)), (.v (.int .i64 x6)), (.v (.int .i64 x7)), (.v (.int .i64 x8)), (.v (.int .i64 x9)), (.v (.int .i64 x10)), (.v (.int .i64 x11)), (.v (.int .i64 x12)), (.v (.int .i64 x13)), (.v (.int .i64 x14)), (.v (.int .i64 x15)), (.v (.int .i64 x16)), (.v (.int .i64 x17)), (.v (.bool x18)), (.v (.int .i64 x19)), (.v (.int .i64 x20)), (.v (.int .i64 x21)), (.v (.int .i64 x22)), (.v (.int .i64 x23)), (.v (.string x24)), (.v (.bool x25))])), (2051, some (.cells 23 [(.v (.int .i64 x26)), (.v (.int .i64 x27)), (.v (.int .i64 x28)), (.v (.int .i64 x29)), (.v (.int .i64 x30)), (.v (.int .i64 x31)), (.v (.int .i64 x32)), (.v (.int .i64 x33)), (.v (.int .i64 x34)), (.v (.int .i64 x35)), (.v (.int .i64 x36)), (.v (.int .i64 x37)), (.v (.int .i64 x38)), (.v (.int .i64 x39)), (.v (.int .i64 x40)), (.v (.bool x41)), (.v (.int .i64 x42)), (.v (.int .i64 x43)), (.v (.int .i64 x44)), (.v (.int .i64 x45)), (.v (.int .i64 x46)), (.v (.string x47)), (.v (.bool x48))])), (2561, some (.map .str (.int .i64) x49 x50))], ofList false [(1, true), (2051, true), (2561, true)]⟩
noncomputable def parse.go  (m : Nat) (x0 : ByteArray) : R := run (parse.cfg ) 68 parse.rs m [.code parse.body] (enter (ivA parse.ps (x0, ())))
theorem parse.start  (m : Nat) (x0 : ByteArray) : parse.go  (m + 1) x0 =
  test (split.pre (x0, Unit.unit)) (
   cond (bne (((splitL x0)).2).2 (0 : Int)) (
    some ((.tup [(.agg [(.v (.int .i64 (0 : Int))), (.v (.int .i64 (0 : Int))), (.v (.int .i64 (0 : Int))), (.v (.int .i64 (0 : Int))), (.v (.int .i64 (0 : Int))), (.v (.int .i64 (0 : Int))), (.v (.int .i64 (0 : Int))), (.v (.int .i64 (0 : Int))), (.v (.int .i64 (0 : Int))), (.v (.int .i64 (0 : Int))), (.v (.int .i64 (0 : Int))), (.v (.int .i64 (0 : Int))), (.v (.int .i64 (0 : Int))), (.v (.int .i64 (0 : Int))), (.v (.int .i64 (0 : Int))), (.v (.bool false)), (.v (.int .i64 (0 : Int))), (.v (.int .i64 (0 : Int))), (.v (.int .i64 (0 : Int))), (.v (.int .i64 (0 : Int))), (.v (.int .i64 (0 : Int))), (.v (.string (⟨#[]⟩ : ByteArray))), (.v (.bool false))]), (.c (.v (.int .i64 (((splitL x0)).2).1))), (.c (.v (.int .i64 (((splitL x0)).2).2)))]), [])) (
    parse.l1  m ((splitL x0)).1 ((List.length ((splitL x0)).1) : Int) (0 : Int) (0 : Int) (0 : Int) (0 : Int) (0 : Int) (0 : Int) (0 : Int) (0 : Int) (0 : Int) (0 : Int) (0 : Int) (0 : Int) (0 : Int) (0 : Int) (0 : Int) (0 : Int) false (0 : Int) (0 : Int) (0 : Int) (0 : Int) (0 : Int) (⟨#[]⟩ : ByteArray) false defC.1 defC.2.1 defC.2.2.1 defC.2.2.2.1 defC.2.2.2.2.1 defC.2.2.2.2.2.1 defC.2.2.2.2.2.2.1 defC.2.2.2.2.2.2.2.1 defC.2.2.2.2.2.2.2.2.1 defC.2.2.2.2.2.2.2.2.2.1 defC.2.2.2.2.2.2.2.2.2.2.1 defC.2.2.2.2.2.2.2.2.2.2.2.1 defC.2.2.2.2.2.2.2.2.2.2.2.2.1 defC.2.2.2.2.2.2.2.2.2.2.2.2.2.1 defC.2.2.2.2.2.2.2.2.2.2.2.2.2.2.1 defC.2.2.2.2.2.2.2.2.2.2.2.2.2.2.2.1 defC.2.2.2.2.2.2.2.2.2.2.2.2.2.2.2.2.1 defC.2.2.2.2.2.2.2.2.2.2.2.2.2.2.2.2.2.1 defC.2.2.2.2.2.2.2.2.2.2.2.2.2.2.2.2.2.2.1 defC.2.2.2.2.2.2.2.2.2.2.2.2.2.2.2.2.2.2.2.1 defC.2.2.2.2.2.2.2.2.2.2.2.2.2.2.2.2.2.2.2.2.1 defC.2.2.2.2.2.2.2.2.2.2.2.2.2.2.2.2.2.2.2.2.2.1 defC.2.2.2.2.2.2.2.2.2.2.2.2.2.2.2.2.2.2.2.2.2.2 [] 0)) := by kernel_rfl
theorem parse.s1  (m : Nat) (x0 : List (El TLine)) (x1 : Int) (x2 : Int) (x3 : Int) (x4 : Int) (x5 : Int) (x6 : Int) (x7 : Int) (x8 : Int) (x9 : Int) (x10 : Int) (x11 : Int) (x12 : Int) (x13 : Int) (x14 : Int) (x15 : Int) (x16 : Int) (x17 : Int) (x18 : Bool) (x19 : Int) (x20 : Int) (x21 : Int) (x22 : Int) (x23 : Int) (x24 : ByteArray) (x25 : Bool) (x26 : Int) (x27 : Int) (x28 : Int) (x29 : Int) (x30 : Int) (x31 : Int) (x32 : Int) (x33 : Int) (x34 : Int) (x35 : Int) (x36 : Int) (x37 : Int) (x38 : Int) (x39 : Int) (x40 : Int) (x41 : Bool) (x42 : Int) (x43 : Int) (x44 : Int) (x45 : Int) (x46 : Int) (x47 : ByteArray) (x48 : Bool) (x49 : List (ByteArray × Int × Nat)) (x50 : Nat) : parse.l1  (m + 1) x0 x1 x2 x3 x4 x5 x6 x7 x8 x9 x10 x11 x12 x13 x14 x15 x16 x17 x18 x19 x20 x21 x22 x23 x24 x25 x26 x27 x28 x29 x30 x31 x32 x33 x34 x35 x36 x37 x38 x39 x40 x41 x42 x43 x44 x45 x46 x47 x48 x49 x50 =
  cond (decide (x2 < x1)) (
   test (decide ((0 : Int) ≤ x2)) (
    test (decide (x2 < ((List.length x0) : Int))) (
     cond (bne ((List.length ((rdEl TLine x0 (Int.toNat x2))).2) : Int) (2 : Int)) (
      some ((.tup [(.agg [(.v (.int .i64 (0 : Int))), (.v (.int .i64 (0 : Int))), (.v (.int .i64 (0 : Int))), (.v (.int .i64 (0 : Int))), (.v (.int .i64 (0 : Int))), (.v (.int .i64 (0 : Int))), (.v (.int .i64 (0 : Int))), (.v (.int .i64 (0 : Int))), (.v (.int .i64 (0 : Int))), (.v (.int .i64 (0 : Int))), (.v (.int .i64 (0 : Int))), (.v (.int .i64 (0 : Int))), (.v (.int .i64 (0 : Int))), (.v (.int .i64 (0 : Int))), (.v (.int .i64 (0 : Int))), (.v (.bool false)), (.v (.int .i64 (0 : Int))), (.v (.int .i64 (0 : Int))), (.v (.int .i64 (0 : Int))), (.v (.int .i64 (0 : Int))), (.v (.int .i64 (0 : Int))), (.v (.string (⟨#[]⟩ : ByteArray))), (.v (.bool false))]), (.c (.v (.int .i64 ((rdEl TLine x0 (Int.toNat x2))).1))), (.c (.v (.int .i64 (2 : Int))))]), [])) (
      test (decide ((0 : Int) < ((List.length ((rdEl TLine x0 (Int.toNat x2))).2) : Int))) (
       cond (decide ((getE .str (.int .i64) (0 : Int) (rdEl .str ((rdEl TLine x0 (Int.toNat x2))).2 (Int.toNat (0 : Int))) x49) > (0 : Int))) (
        some ((.tup [(.agg [(.v (.int .i64 (0 : Int))), (.v (.int .i64 (0 : Int))), (.v (.int .i64 (0 : Int))), (.v (.int .i64 (0 : Int))), (.v (.int .i64 (0 : Int))), (.v (.int .i64 (0 : Int))), (.v (.int .i64 (0 : Int))), (.v (.int .i64 (0 : Int))), (.v (.int .i64 (0 : Int))), (.v (.int .i64 (0 : Int))), (.v (.int .i64 (0 : Int))), (.v (.int .i64 (0 : Int))), (.v (.int .i64 (0 : Int))), (.v (.int .i64 (0 : Int))), (.v (.int .i64 (0 : Int))), (.v (.bool false)), (.v (.int .i64 (0 : Int))), (.v (.int .i64 (0 : Int))), (.v (.int .i64 (0 : Int))), (.v (.int .i64 (0 : Int))), (.v (.int .i64 (0 : Int))), (.v (.string (⟨#[]⟩ : ByteArray))), (.v (.bool false))]), (.c (.v (.int .i64 ((rdEl TLine x0 (Int.toNat x2))).1))), (.c (.v (.int .i64 (2 : Int))))]), [])) (
        test (decide ((0 : Int) < ((List.length ((rdEl TLine x0 (Int.toNat x2))).2) : Int))) (
         test (decide ((1 : Int) < ((List.length ((rdEl TLine x0 (Int.toNat x2))).2) : Int))) (
          test (set.pre ((x26, (x27, (x28, (x29, (x30, (x31, (x32, (x33, (x34, (x35, (x36, (x37, (x38, (x39, (x40, (x41, (x42, (x43, (x44, (x45, (x46, (x47, x48)))))))))))))))))))))), ((rdEl .str ((rdEl TLine x0 (Int.toNat x2))).2 (Int.toNat (0 : Int))), ((rdEl .str ((rdEl TLine x0 (Int.toNat x2))).2 (Int.toNat (1 : Int))), Unit.unit)))) (
           cond (Bool.not (setOk (x26, (x27, (x28, (x29, (x30, (x31, (x32, (x33, (x34, (x35, (x36, (x37, (x38, (x39, (x40, (x41, (x42, (x43, (x44, (x45, (x46, (x47, x48)))))))))))))))))))))) (rdEl .str ((rdEl TLine x0 (Int.toNat x2))).2 (Int.toNat (0 : Int))) (rdEl .str ((rdEl TLine x0 (Int.toNat x2))).2 (Int.toNat (1 : Int))))) (
            some ((.tup [(.agg [(.v (.int .i64 (0 : Int))), (.v (.int .i64 (0 : Int))), (.v (.int .i64 (0 : Int))), (.v (.int .i64 (0 : Int))), (.v (.int .i64 (0 : Int))), (.v (.int .i64 (0 : Int))), (.v (.int .i64 (0 : Int))), (.v (.int .i64 (0 : Int))), (.v (.int .i64 (0 : Int))), (.v (.int .i64 (0 : Int))), (.v (.int .i64 (0 : Int))), (.v (.int .i64 (0 : Int))), (.v (.int .i64 (0 : Int))), (.v (.int .i64 (0 : Int))), (.v (.int .i64 (0 : Int))), (.v (.bool false)), (.v (.int .i64 (0 : Int))), (.v (.int .i64 (0 : Int))), (.v (.int .i64 (0 : Int))), (.v (.int .i64 (0 : Int))), (.v (.int .i64 (0 : Int))), (.v (.string (⟨#[]⟩ : ByteArray))), (.v (.bool false))]), (.c (.v (.int .i64 ((rdEl TLine x0 (Int.toNat x2))).1))), (.c (.v (.int .i64 (2 : Int))))]), [])) (
            test (decide ((0 : Int) < ((List.length ((rdEl TLine x0 (Int.toNat x2))).2) : Int))) (
             parse.l1  m x0 x1 (IntKind.i64.wrap (x2 + (1 : Int))) x3 x4 x5 x6 x7 x8 x9 x10 x11 x12 x13 x14 x15 x16 x17 x18 x19 x20 x21 x22 x23 x24 x25 ((setC (x26, (x27, (x28, (x29, (x30, (x31, (x32, (x33, (x34, (x35, (x36, (x37, (x38, (x39, (x40, (x41, (x42, (x43, (x44, (x45, (x46, (x47, x48)))))))))))))))))))))) (rdEl .str ((rdEl TLine x0 (Int.toNat x2))).2 (Int.toNat (0 : Int))) (rdEl .str ((rdEl TLine x0 (Int.toNat x2))).2 (Int.toNat (1 : Int))))).1 (((setC (x26, (x27, (x28, (x29, (x30, (x31, (x32, (x33, (x34, (x35, (x36, (x37, (x38, (x39, (x40, (x41, (x42, (x43, (x44, (x45, (x46, (x47, x48)))))))))))))))))))))) (rdEl .str ((rdEl TLine x0 (Int.toNat x2))).2 (Int.toNat (0 : Int))) (rdEl .str ((rdEl TLine x0 (Int.toNat x2))).2 (Int.toNat (1 : Int))))).2).1 ((((setC (x26, (x27, (x28, (x29, (x30, (x31, (x32, (x33, (x34, (x35, (x36, (x37, (x38, (x39, (x40, (x41, (x42, (x43, (x44, (x45, (x46, (x47, x48)))))))))))))))))))))) (rdEl .str ((rdEl TLine x0 (Int.toNat x2))).2 (Int.toNat (0 : Int))) (rdEl .str ((rdEl TLine x0 (Int.toNat x2))).2 (Int.toNat (1 : Int))))).2).2).1 (((((setC (x26, (x27, (x28, (x29, (x30, (x31, (x32, (x33, (x34, (x35, (x36, (x37, (x38, (x39, (x40, (x41, (x42, (x43, (x44, (x45, (x46, (x47, x48)))))))))))))))))))))) (rdEl .str ((rdEl TLine x0 (Int.toNat x2))).2 (Int.toNat (0 : Int))) (rdEl .str ((rdEl TLine x0 (Int.toNat x2))).2 (Int.toNat (1 : Int))))).2).2).2).1 ((((((setC (x26, (x27, (x28, (x29, (x30, (x31, (x32, (x33, (x34, (x35, (x36, (x37, (x38, (x39, (x40, (x41, (x42, (x43, (x44, (x45, (x46, (x47, x48)))))))))))))))))))))) (rdEl .str ((rdEl TLine x0 (Int.toNat x2))).2 (Int.toNat (0 : Int))) (rdEl .str ((rdEl TLine x0 (Int.toNat x2))).2 (Int.toNat (1 : Int))))).2).2).2).2).1 (((((((setC (x26, (x27, (x28, (x29, (x30, (x31, (x32, (x33, (x34, (x35, (x36, (x37, (x38, (x39, (x40, (x41, (x42, (x43, (x44, (x45, (x46, (x47, x48)))))))))))))))))))))) (rdEl .str ((rdEl TLine x0 (Int.toNat x2))).2 (Int.toNat (0 : Int))) (rdEl .str ((rdEl TLine x0 (Int.toNat x2))).2 (Int.toNat (1 : Int))))).2).2).2).2).2).1 ((((((((setC (x26, (x27, (x28, (x29, (x30, (x31, (x32, (x33, (x34, (x35, (x36, (x37, (x38, (x39, (x40, (x41, (x42, (x43, (x44, (x45, (x46, (x47, x48)))))))))))))))))))))) (rdEl .str ((rdEl TLine x0 (Int.toNat x2))).2 (Int.toNat (0 : Int))) (rdEl .str ((rdEl TLine x0 (Int.toNat x2))).2 (Int.toNat (1 : Int))))).2).2).2).2).2).2).1 (((((((((setC (x26, (x27, (x28, (x29, (x30, (x31, (x32, (x33, (x34, (x35, (x36, (x37, (x38, (x39, (x40, (x41, (x42, (x43, (x44, (x45, (x46, (x47, x48)))))))))))))))))))))) (rdEl .str ((rdEl TLine x0 (Int.toNat x2))).2 (Int.toNat (0 : Int))) (rdEl .str ((rdEl TLine x0 (Int.toNat x2))).2 (Int.toNat (1 : Int))))).2).2).2).2).2).2).2).1 ((((((((((setC (x26, (x27, (x28, (x29, (x30, (x31, (x32, (x33, (x34, (x35, (x36, (x37, (x38, (x39, (x40, (x41, (x42, (x43, (x44, (x45, (x46, (x47, x48)))))))))))))))))))))) (rdEl .str ((rdEl TLine x0 (Int.toNat x2))).2 (Int.toNat (0 : Int))) (rdEl .str ((rdEl TLine x0 (Int.toNat x2))).2 (Int.toNat (1 : Int))))).2).2).2).2).2).2).2).2).1 (((((((((((setC (x26, (x27, (x28, (x29, (x30, (x31, (x32, (x33, (x34, (x35, (x36, (x37, (x38, (x39, (x40, (x41, (x42, (x43, (x44, (x45, (x46, (x47, x48)))))))))))))))))))))) (rdEl .str ((rdEl TLine x0 (Int.toNat x2))).2 (Int.toNat (0 : Int))) (rdEl .str ((rdEl TLine x0 (Int.toNat x2))).2 (Int.toNat (1 : Int))))).2).2).2).2).2).2).2).2).2).1 ((((((((((((setC (x26, (x27, (x28, (x29, (x30, (x31, (x32, (x33, (x34, (x35, (x36, (x37, (x38, (x39, (x40, (x41, (x42, (x43, (x44, (x45, (x46, (x47, x48)))))))))))))))))))))) (rdEl .str ((rdEl TLine x0 (Int.toNat x2))).2 (Int.toNat (0 : Int))) (rdEl .str ((rdEl TLine x0 (Int.toNat x2))).2 (Int.toNat (1 : Int))))).2).2).2).2).2).2).2).2).2).2).1 (((((((((((((setC (x26, (x27, (x28, (x29, (x30, (x31, (x32, (x33, (x34, (x35, (x36, (x37, (x38, (x39, (x40, (x41, (x42, (x43, (x44, (x45, (x46, (x47, x48)))))))))))))))))))))) (rdEl .str ((rdEl TLine x0 (Int.toNat x2))).2 (Int.toNat (0 : Int))) (rdEl .str ((rdEl TLine x0 (Int.toNat x2))).2 (Int.toNat (1 : Int))))).2).2).2).2).2).2).2).2).2).2).2).1 ((((((((((((((setC (x26, (x27, (x28, (x29, (x30, (x31, (x32, (x33, (x34, (x35, (x36, (x37, (x38, (x39, (x40, (x41, (x42, (x43, (x44, (x45, (x46, (x47, x48)))))))))))))))))))))) (rdEl .str ((rdEl TLine x0 (Int.toNat x2))).2 (Int.toNat (0 : Int))) (rdEl .str ((rdEl TLine x0 (Int.toNat x2))).2 (Int.toNat (1 : Int))))).2).2).2).2).2).2).2).2).2).2).2).2).1 (((((((((((((((setC (x26, (x27, (x28, (x29, (x30, (x31, (x32, (x33, (x34, (x35, (x36, (x37, (x38, (x39, (x40, (x41, (x42, (x43, (x44, (x45, (x46, (x47, x48)))))))))))))))))))))) (rdEl .str ((rdEl TLine x0 (Int.toNat x2))).2 (Int.toNat (0 : Int))) (rdEl .str ((rdEl TLine x0 (Int.toNat x2))).2 (Int.toNat (1 : Int))))).2).2).2).2).2).2).2).2).2).2).2).2).2).1 ((((((((((((((((setC (x26, (x27, (x28, (x29, (x30, (x31, (x32, (x33, (x34, (x35, (x36, (x37, (x38, (x39, (x40, (x41, (x42, (x43, (x44, (x45, (x46, (x47, x48)))))))))))))))))))))) (rdEl .str ((rdEl TLine x0 (Int.toNat x2))).2 (Int.toNat (0 : Int))) (rdEl .str ((rdEl TLine x0 (Int.toNat x2))).2 (Int.toNat (1 : Int))))).2).2).2).2).2).2).2).2).2).2).2).2).2).2).1 (((((((((((((((((setC (x26, (x27, (x28, (x29, (x30, (x31, (x32, (x33, (x34, (x35, (x36, (x37, (x38, (x39, (x40, (x41, (x42, (x43, (x44, (x45, (x46, (x47, x48)))))))))))))))))))))) (rdEl .str ((rdEl TLine x0 (Int.toNat x2))).2 (Int.toNat (0 : Int))) (rdEl .str ((rdEl TLine x0 (Int.toNat x2))).2 (Int.toNat (1 : Int))))).2).2).2).2).2).2).2).2).2).2).2).2).2).2).2).1 ((((((((((((((((((setC (x26, (x27, (x28, (x29, (x30, (x31, (x32, (x33, (x34, (x35, (x36, (x37, (x38, (x39, (x40, (x41, (x42, (x43, (x44, (x45, (x46, (x47, x48)))))))))))))))))))))) (rdEl .str ((rdEl TLine x0 (Int.toNat x2))).2 (Int.toNat (0 : Int))) (rdEl .str ((rdEl TLine x0 (Int.toNat x2))).2 (Int.toNat (1 : Int))))).2).2).2).2).2).2).2).2).2).2).2).2).2).2).2).2).1 (((((((((((((((((((setC (x26, (x27, (x28, (x29, (x30, (x31, (x32, (x33, (x34, (x35, (x36, (x37, (x38, (x39, (x40, (x41, (x42, (x43, (x44, (x45, (x46, (x47, x48)))))))))))))))))))))) (rdEl .str ((rdEl TLine x0 (Int.toNat x2))).2 (Int.toNat (0 : Int))) (rdEl .str ((rdEl TLine x0 (Int.toNat x2))).2 (Int.toNat (1 : Int))))).2).2).2).2).2).2).2).2).2).2).2).2).2).2).2).2).2).1 ((((((((((((((((((((setC (x26, (x27, (x28, (x29, (x30, (x31, (x32, (x33, (x34, (x35, (x36, (x37, (x38, (x39, (x40, (x41, (x42, (x43, (x44, (x45, (x46, (x47, x48)))))))))))))))))))))) (rdEl .str ((rdEl TLine x0 (Int.toNat x2))).2 (Int.toNat (0 : Int))) (rdEl .str ((rdEl TLine x0 (Int.toNat x2))).2 (Int.toNat (1 : Int))))).2).2).2).2).2).2).2).2).2).2).2).2).2).2).2).2).2).2).1 (((((((((((((((((((((setC (x26, (x27, (x28, (x29, (x30, (x31, (x32, (x33, (x34, (x35, (x36, (x37, (x38, (x39, (x40, (x41, (x42, (x43, (x44, (x45, (x46, (x47, x48)))))))))))))))))))))) (rdEl .str ((rdEl TLine x0 (Int.toNat x2))).2 (Int.toNat (0 : Int))) (rdEl .str ((rdEl TLine x0 (Int.toNat x2))).2 (Int.toNat (1 : Int))))).2).2).2).2).2).2).2).2).2).2).2).2).2).2).2).2).2).2).2).1 ((((((((((((((((((((((setC (x26, (x27, (x28, (x29, (x30, (x31, (x32, (x33, (x34, (x35, (x36, (x37, (x38, (x39, (x40, (x41, (x42, (x43, (x44, (x45, (x46, (x47, x48)))))))))))))))))))))) (rdEl .str ((rdEl TLine x0 (Int.toNat x2))).2 (Int.toNat (0 : Int))) (rdEl .str ((rdEl TLine x0 (Int.toNat x2))).2 (Int.toNat (1 : Int))))).2).2).2).2).2).2).2).2).2).2).2).2).2).2).2).2).2).2).2).2).1 (((((((((((((((((((((((setC (x26, (x27, (x28, (x29, (x30, (x31, (x32, (x33, (x34, (x35, (x36, (x37, (x38, (x39, (x40, (x41, (x42, (x43, (x44, (x45, (x46, (x47, x48)))))))))))))))))))))) (rdEl .str ((rdEl TLine x0 (Int.toNat x2))).2 (Int.toNat (0 : Int))) (rdEl .str ((rdEl TLine x0 (Int.toNat x2))).2 (Int.toNat (1 : Int))))).2).2).2).2).2).2).2).2).2).2).2).2).2).2).2).2).2).2).2).2).2).1 (((((((((((((((((((((((setC (x26, (x27, (x28, (x29, (x30, (x31, (x32, (x33, (x34, (x35, (x36, (x37, (x38, (x39, (x40, (x41, (x42, (x43, (x44, (x45, (x46, (x47, x48)))))))))))))))))))))) (rdEl .str ((rdEl TLine x0 (Int.toNat x2))).2 (Int.toNat (0 : Int))) (rdEl .str ((rdEl TLine x0 (Int.toNat x2))).2 (Int.toNat (1 : Int))))).2).2).2).2).2).2).2).2).2).2).2).2).2).2).2).2).2).2).2).2).2).2 (setE .str (.int .i64) x50 (rdEl .str ((rdEl TLine x0 (Int.toNat x2))).2 (Int.toNat (0 : Int))) (IntKind.i64.wrap ((getE .str (.int .i64) (0 : Int) (rdEl .str ((rdEl TLine x0 (Int.toNat x2))).2 (Int.toNat (0 : Int))) x49) + (1 : Int))) x49) (clockE .str (.int .i64) x50 (rdEl .str ((rdEl TLine x0 (Int.toNat x2))).2 (Int.toNat (0 : Int))) x49)))))))))))) (
   some ((.tup [(.agg [(.v (.int .i64 x26)), (.v (.int .i64 x27)), (.v (.int .i64 x28)), (.v (.int .i64 x29)), (.v (.int .i64 x30)), (.v (.int .i64 x31)), (.v (.int .i64 x32)), (.v (.int .i64 x33)), (.v (.int .i64 x34)), (.v (.int .i64 x35)), (.v (.int .i64 x36)), (.v (.int .i64 x37)), (.v (.int .i64 x38)), (.v (.int .i64 x39)), (.v (.int .i64 x40)), (.v (.bool x41)), (.v (.int .i64 x42)), (.v (.int .i64 x43)), (.v (.int .i64 x44)), (.v (.int .i64 x45)), (.v (.int .i64 x46)), (.v (.string x47)), (.v (.bool x48))]), (.c (.v (.int .i64 (0 : Int)))), (.c (.v (.int .i64 (0 : Int))))]), [])) := by kernel_rfl
theorem parse.run_eq  (m : Nat) (x0 : ByteArray) : run (parse.cfg ) Tryd.f11.ntmps Tryd.f11.results.toList m [.code (bodyOf Tryd.f11)] (enter (ivA parse.ps (x0, ()))) = parse.go  m x0 := by kernel_rfl
theorem parse.ret  (hs : SpecsOK Tryd.prog (parse.specs )) (ho : OSpecsOK Tryd.prog (parse.ospecs )) (x0 : ByteArray) {m : Nat} {r : IV} (h : parse.go  m x0 = some (r, [])) : VE.Returns Tryd.prog 11 (ivA parse.ps (x0, ())) r :=
  returns_of_run (cfg := parse.cfg ) (cfgOK_of mixed tab_ok hs ho) rfl Tryd.func11 (body_some (by kernel_rfl)) (Nat.le_of_ble_eq_true (by kernel_rfl)) ((parse.run_eq  m x0).trans h)
abbrev parse.Law : Prop := ∀ (x0 : ByteArray), parse.pre (x0, ()) = true → VE.Returns Tryd.prog 11 (ivA parse.ps (x0, ())) (parse.res (x0, ()))
theorem parse.mkR (H : ∀ (x0 : ByteArray), parse.pre (x0, ()) = true → VE.Returns Tryd.prog 11 (ivA parse.ps (x0, ())) (parse.res (x0, ()))) : SpecOK Tryd.prog 11 parse.sp :=
  specOf_ret Tryd.func11 (by kernel_rfl) (by kernel_rfl) fun (x : ByteArray × Unit) hx => H (x.1) hx
theorem parse.mk  (hs : SpecsOK Tryd.prog (parse.specs )) (ho : OSpecsOK Tryd.prog (parse.ospecs )) (H : ∀ (x0 : ByteArray), parse.pre (x0, ()) = true → ∃ m, parse.go  m x0 = some (parse.res (x0, ()), [])) : SpecOK Tryd.prog 11 parse.sp :=
  parse.mkR fun x0 hx => (H x0 hx).elim fun _ hm => parse.ret  hs ho x0 hm

/-! ### triage/config.Text -/
abbrev text.ps : List AK := [.d true TConfig]
def text.pre : ElA text.ps → Bool := fun (x : (El TConfig) × Unit) => fits TConfig (x.1) && (true)
noncomputable def text.res : ElA text.ps → IV := fun (x : (El TConfig) × Unit) => (fun c => vs (textC c)) x.1
noncomputable def text.sp : ISpec := spOf text.ps text.pre text.res
abbrev text.OK : Prop := SpecOK Tryd.prog 13 text.sp
theorem text.mkR (H : ∀ (x0 : (El TConfig)), text.pre (x0, ()) = true → VE.Returns Tryd.prog 13 (ivA text.ps (x0, ())) (text.res (x0, ()))) : SpecOK Tryd.prog 13 text.sp :=
  specOf_ret Tryd.func13 (by kernel_rfl) (by kernel_rfl) fun (x : (El TConfig) × Unit) hx => H (x.1) hx

/-! ### triage/triageref1.ConfigText -/
abbrev textR.ps : List AK := [.d true TConfig]
def textR.pre : ElA textR.ps → Bool := fun (x : (El TConfig) × Unit) => fits TConfig (x.1) && (true)
noncomputable def textR.res : ElA textR.ps → IV := fun (x : (El TConfig) × Unit) => (fun c => vs (textC c)) x.1
noncomputable def textR.sp : ISpec := spOf textR.ps textR.pre textR.res
abbrev textR.OK : Prop := SpecOK Tryd.prog 14 textR.sp
noncomputable def textR.body : Code := bodyOf Tryd.f14
noncomputable def textR.rs : List ResultVar := Tryd.f14.results.toList
def textR.live : List (Nat × Live) := [(6, ⟨[(1, .plain), (3, .sl (.int .i64)), (4, .plain), (13, .sl TRow), (14, .plain), (15, .plain)], [(1, [])]⟩)]
noncomputable def textR.specs  : List (Nat × (List Bool × ISpec)) := [(16, ([], mayCR.sp)), (24, ([], numsR.sp)), (25, ([], rowsR.sp)), (31, ([], itoa.sp))]
noncomputable def textR.ospecs  : List (Nat × OS) := []
noncomputable def textR.cfg  : Cfg := ⟨lkp tab, lkp (textR.specs ), lkp textR.live, ⟨lkp (textR.ospecs ), [], none, false, []⟩⟩
noncomputable def textR.l1  (m : Nat) (x0 : List Int) (x1 : ByteArray) (x2 : List (El TNum)) (x3 : Int) (x4 : Int) (x5 : Int) (x6 : Int) (x7 : Int) (x8 : Int) (x9 : Int) (x10 : Int) (x11 : Int) (x12 : Int) (x13 : Int) (x14 : Int) (x15 : Int) (x16 : Int) (x17 : Int) (x18 : Int) (x19 : Int) (x20 : Bool) (x21 : Int) (x22 : Int) (x23 : Int) (x24 : Int) (x25 : Int) (x26 : ByteArray) (x27 : Bool) : R := run (textR.cfg ) 63 textR.rs m ((todoR 6 textR.body []).getD []) ⟨ofList (.c .junk) [(1, (.c (.ref 1 0))), (3, (.c (.sl (.int .i64) x0))), (4, (.c (.v (.string x1)))), (13, (.c (.sl TRow x2))), (14, (.c (.v (.int .i64 x3)))), (15, (.c (.v (.int .i64 x4))))], ofList none [(1, some (.cells 23 [(.v (.int .i64 x5)), (.v (.int .i64 x6)), (.v (.int .i64 x7)), (.v (.int .i64 x8)), (.v (.int .i64 x9)), (.v (.int .i64 x10)), (.v (.int .i64 x11)), (.v (.int .i64 x12)), (.v (.int .i64 x13)), (.v (.int .i64 x14)), (.v (.int .i64 x15)), (.v (.int .i64 x16)), (.v (.int .i64 x17)), (.v (.int .i64 x18)), (.v (.int .i64 x19)), (.v (.bool x20)), (.v (.int .i64 x21)), (.v (.int .i64 x22)), (.v (.int .i64 x23)), (.v (.int .i64 x24)), (.v (.int .i64 x25)), (.v (.string x26)), (.v (.bool x27))]))], ofList false [(1, true)]⟩
noncomputable def textR.go  (m : Nat) (x0 : (El TConfig)) : R := run (textR.cfg ) 63 textR.rs m [.code textR.body] (enter (ivA textR.ps (x0, ())))
theorem textR.start  (m : Nat) (x0 : (El TConfig)) : textR.go  (m + 1) x0 =
  test (mayCR.pre (x0, Unit.unit)) (
   cond (Bool.not (mayC x0)) (
    some ((.c (.v (.string (⟨#[]⟩ : ByteArray)))), [])) (
    test (numsR.pre (x0, Unit.unit)) (
     textR.l1  m (numsL x0) (⟨#[]⟩ : ByteArray) rowsL ((List.length rowsL) : Int) (0 : Int) x0.1 x0.2.1 x0.2.2.1 x0.2.2.2.1 x0.2.2.2.2.1 x0.2.2.2.2.2.1 x0.2.2.2.2.2.2.1 x0.2.2.2.2.2.2.2.1 x0.2.2.2.2.2.2.2.2.1 x0.2.2.2.2.2.2.2.2.2.1 x0.2.2.2.2.2.2.2.2.2.2.1 x0.2.2.2.2.2.2.2.2.2.2.2.1 x0.2.2.2.2.2.2.2.2.2.2.2.2.1 x0.2.2.2.2.2.2.2.2.2.2.2.2.2.1 x0.2.2.2.2.2.2.2.2.2.2.2.2.2.2.1 x0.2.2.2.2.2.2.2.2.2.2.2.2.2.2.2.1 x0.2.2.2.2.2.2.2.2.2.2.2.2.2.2.2.2.1 x0.2.2.2.2.2.2.2.2.2.2.2.2.2.2.2.2.2.1 x0.2.2.2.2.2.2.2.2.2.2.2.2.2.2.2.2.2.2.1 x0.2.2.2.2.2.2.2.2.2.2.2.2.2.2.2.2.2.2.2.1 x0.2.2.2.2.2.2.2.2.2.2.2.2.2.2.2.2.2.2.2.2.1 x0.2.2.2.2.2.2.2.2.2.2.2.2.2.2.2.2.2.2.2.2.2.1 x0.2.2.2.2.2.2.2.2.2.2.2.2.2.2.2.2.2.2.2.2.2.2))) := by kernel_rfl
theorem textR.s1  (m : Nat) (x0 : List Int) (x1 : ByteArray) (x2 : List (El TNum)) (x3 : Int) (x4 : Int) (x5 : Int) (x6 : Int) (x7 : Int) (x8 : Int) (x9 : Int) (x10 : Int) (x11 : Int) (x12 : Int) (x13 : Int) (x14 : Int) (x15 : Int) (x16 : Int) (x17 : Int) (x18 : Int) (x19 : Int) (x20 : Bool) (x21 : Int) (x22 : Int) (x23 : Int) (x24 : Int) (x25 : Int) (x26 : ByteArray) (x27 : Bool) : textR.l1  (m + 1) x0 x1 x2 x3 x4 x5 x6 x7 x8 x9 x10 x11 x12 x13 x14 x15 x16 x17 x18 x19 x20 x21 x22 x23 x24 x25 x26 x27 =
  cond (decide (x4 < x3)) (
   test (decide ((0 : Int) ≤ x4)) (
    test (decide (x4 < ((List.length x2) : Int))) (
     test (decide ((0 : Int) ≤ x4)) (
      test (decide (x4 < ((List.length x0) : Int))) (
       test (itoa.pre ((rdEl (.int .i64) x0 (Int.toNat x4)), Unit.unit)) (
        cond ((ByteArray.toList ((rdEl TRow x2 (Int.toNat x4))).1) == (ByteArray.toList (⟨#[122, 111, 110, 101]⟩ : ByteArray))) (
         cond ((ByteArray.toList x26) == (ByteArray.toList (⟨#[]⟩ : ByteArray))) (
          test (decide (((ByteArray.size ((rdEl TRow x2 (Int.toNat x4))).1) + (ByteArray.size (⟨#[32]⟩ : ByteArray))) ≤ 9223372036854775807)) (
           test (decide (((ByteArray.size (((rdEl TRow x2 (Int.toNat x4))).1 ++ (⟨#[32]⟩ : ByteArray))) + (ByteArray.size (⟨#[45]⟩ : ByteArray))) ≤ 9223372036854775807)) (
            test (decide (((ByteArray.size ((((rdEl TRow x2 (Int.toNat x4))).1 ++ (⟨#[32]⟩ : ByteArray)) ++ (⟨#[45]⟩ : ByteArray))) + (ByteArray.size (⟨#[10]⟩ : ByteArray))) ≤ 9223372036854775807)) (
             test (decide (((ByteArray.size x1) + (ByteArray.size (((((rdEl TRow x2 (Int.toNat x4))).1 ++ (⟨#[32]⟩ : ByteArray)) ++ (⟨#[45]⟩ : ByteArray)) ++ (⟨#[10]⟩ : ByteArray)))) ≤ 9223372036854775807)) (
              textR.l1  m x0 (x1 ++ (((((rdEl TRow x2 (Int.toNat x4))).1 ++ (⟨#[32]⟩ : ByteArray)) ++ (⟨#[45]⟩ : ByteArray)) ++ (⟨#[10]⟩ : ByteArray))) x2 x3 (IntKind.i64.wrap (x4 + (1 : Int))) x5 x6 x7 x8 x9 x10 x11 x12 x13 x14 x15 x16 x17 x18 x19 x20 x21 x22 x23 x24 x25 x26 x27))))) (
          test (decide (((ByteArray.size ((rdEl TRow x2 (Int.toNat x4))).1) + (ByteArray.size (⟨#[32]⟩ : ByteArray))) ≤ 9223372036854775807)) (
           test (decide (((ByteArray.size (((rdEl TRow x2 (Int.toNat x4))).1 ++ (⟨#[32]⟩ : ByteArray))) + (ByteArray.size x26)) ≤ 9223372036854775807)) (
            test (decide (((ByteArray.size ((((rdEl TRow x2 (Int.toNat x4))).1 ++ (⟨#[32]⟩ : ByteArray)) ++ x26)) + (ByteArray.size (⟨#[10]⟩ : ByteArray))) ≤ 9223372036854775807)) (
             test (decide (((ByteArray.size x1) + (ByteArray.size (((((rdEl TRow x2 (Int.toNat x4))).1 ++ (⟨#[32]⟩ : ByteArray)) ++ x26) ++ (⟨#[10]⟩ : ByteArray)))) ≤ 9223372036854775807)) (
              textR.l1  m x0 (x1 ++ (((((rdEl TRow x2 (Int.toNat x4))).1 ++ (⟨#[32]⟩ : ByteArray)) ++ x26) ++ (⟨#[10]⟩ : ByteArray))) x2 x3 (IntKind.i64.wrap (x4 + (1 : Int))) x5 x6 x7 x8 x9 x10 x11 x12 x13 x14 x15 x16 x17 x18 x19 x20 x21 x22 x23 x24 x25 x26 x27)))))) (
         cond ((ByteArray.toList ((rdEl TRow x2 (Int.toNat x4))).1) == (ByteArray.toList (⟨#[112, 111, 108, 105, 99, 121]⟩ : ByteArray))) (
          test (decide ((0 : Int) ≤ x4)) (
           test (decide (x4 < ((List.length x0) : Int))) (
            test (decide ((0 : Int) ≤ (IntKind.i64.wrap ((rdEl (.int .i64) x0 (Int.toNat x4)) - (1 : Int))))) (
             test (decide ((IntKind.i64.wrap ((rdEl (.int .i64) x0 (Int.toNat x4)) - (1 : Int))) < ((List.length ((⟨#[114, 111, 117, 110, 100]⟩ : ByteArray) :: ((⟨#[108, 101, 97, 115, 116]⟩ : ByteArray) :: ((⟨#[114, 105, 110, 103]⟩ : ByteArray) :: ([] : List ByteArray))))) : Int))) (
              test (decide (((ByteArray.size ((rdEl TRow x2 (Int.toNat x4))).1) + (ByteArray.size (⟨#[32]⟩ : ByteArray))) ≤ 9223372036854775807)) (
               test (decide (((ByteArray.size (((rdEl TRow x2 (Int.toNat x4))).1 ++ (⟨#[32]⟩ : ByteArray))) + (ByteArray.size (rdEl .str ((⟨#[114, 111, 117, 110, 100]⟩ : ByteArray) :: ((⟨#[108, 101, 97, 115, 116]⟩ : ByteArray) :: ((⟨#[114, 105, 110, 103]⟩ : ByteArray) :: ([] : List ByteArray)))) (Int.toNat (IntKind.i64.wrap ((rdEl (.int .i64) x0 (Int.toNat x4)) - (1 : Int))))))) ≤ 9223372036854775807)) (
                test (decide (((ByteArray.size ((((rdEl TRow x2 (Int.toNat x4))).1 ++ (⟨#[32]⟩ : ByteArray)) ++ (rdEl .str ((⟨#[114, 111, 117, 110, 100]⟩ : ByteArray) :: ((⟨#[108, 101, 97, 115, 116]⟩ : ByteArray) :: ((⟨#[114, 105, 110, 103]⟩ : ByteArray) :: ([] : List ByteArray)))) (Int.toNat (IntKind.i64.wrap ((rdEl (.int .i64) x0 (Int.toNat x4)) - (1 : Int))))))) + (ByteArray.size (⟨#[10]⟩ : ByteArray))) ≤ 9223372036854775807)) (
                 test (decide (((ByteArray.size x1) + (ByteArray.size (((((rdEl TRow x2 (Int.toNat x4))).1 ++ (⟨#[32]⟩ : ByteArray)) ++ (rdEl .str ((⟨#[114, 111, 117, 110, 100]⟩ : ByteArray) :: ((⟨#[108, 101, 97, 115, 116]⟩ : ByteArray) :: ((⟨#[114, 105, 110, 103]⟩ : ByteArray) :: ([] : List ByteArray)))) (Int.toNat (IntKind.i64.wrap ((rdEl (.int .i64) x0 (Int.toNat x4)) - (1 : Int)))))) ++ (⟨#[10]⟩ : ByteArray)))) ≤ 9223372036854775807)) (
                  textR.l1  m x0 (x1 ++ (((((rdEl TRow x2 (Int.toNat x4))).1 ++ (⟨#[32]⟩ : ByteArray)) ++ (rdEl .str ((⟨#[114, 111, 117, 110, 100]⟩ : ByteArray) :: ((⟨#[108, 101, 97, 115, 116]⟩ : ByteArray) :: ((⟨#[114, 105, 110, 103]⟩ : ByteArray) :: ([] : List ByteArray)))) (Int.toNat (IntKind.i64.wrap ((rdEl (.int .i64) x0 (Int.toNat x4)) - (1 : Int)))))) ++ (⟨#[10]⟩ : ByteArray))) x2 x3 (IntKind.i64.wrap (x4 + (1 : Int))) x5 x6 x7 x8 x9 x10 x11 x12 x13 x14 x15 x16 x17 x18 x19 x20 x21 x22 x23 x24 x25 x26 x27))))))))) (
          cond ((ByteArray.toList ((rdEl TRow x2 (Int.toNat x4))).1) == (ByteArray.toList (⟨#[111, 110, 101]⟩ : ByteArray))) (
           cond ((ByteArray.toList ((rdEl TRow x2 (Int.toNat x4))).1) == (ByteArray.toList (⟨#[111, 110, 101]⟩ : ByteArray))) (
            test (decide ((0 : Int) ≤ x4)) (
             test (decide (x4 < ((List.length x0) : Int))) (
              test (decide ((0 : Int) ≤ (rdEl (.int .i64) x0 (Int.toNat x4)))) (
               test (decide ((rdEl (.int .i64) x0 (Int.toNat x4)) < ((List.length ((⟨#[110, 111]⟩ : ByteArray) :: ((⟨#[121, 101, 115]⟩ : ByteArray) :: ([] : List ByteArray)))) : Int))) (
                test (decide (((ByteArray.size ((rdEl TRow x2 (Int.toNat x4))).1) + (ByteArray.size (⟨#[32]⟩ : ByteArray))) ≤ 9223372036854775807)) (
                 test (decide (((ByteArray.size (((rdEl TRow x2 (Int.toNat x4))).1 ++ (⟨#[32]⟩ : ByteArray))) + (ByteArray.size (rdEl .str ((⟨#[110, 111]⟩ : ByteArray) :: ((⟨#[121, 101, 115]⟩ : ByteArray) :: ([] : List ByteArray))) (Int.toNat (rdEl (.int .i64) x0 (Int.toNat x4)))))) ≤ 9223372036854775807)) (
                  test (decide (((ByteArray.size ((((rdEl TRow x2 (Int.toNat x4))).1 ++ (⟨#[32]⟩ : ByteArray)) ++ (rdEl .str ((⟨#[110, 111]⟩ : ByteArray) :: ((⟨#[121, 101, 115]⟩ : ByteArray) :: ([] : List ByteArray))) (Int.toNat (rdEl (.int .i64) x0 (Int.toNat x4)))))) + (ByteArray.size (⟨#[10]⟩ : ByteArray))) ≤ 9223372036854775807)) (
                   test (decide (((ByteArray.size x1) + (ByteArray.size (((((rdEl TRow x2 (Int.toNat x4))).1 ++ (⟨#[32]⟩ : ByteArray)) ++ (rdEl .str ((⟨#[110, 111]⟩ : ByteArray) :: ((⟨#[121, 101, 115]⟩ : ByteArray) :: ([] : List ByteArray))) (Int.toNat (rdEl (.int .i64) x0 (Int.toNat x4))))) ++ (⟨#[10]⟩ : ByteArray)))) ≤ 9223372036854775807)) (
                    textR.l1  m x0 (x1 ++ (((((rdEl TRow x2 (Int.toNat x4))).1 ++ (⟨#[32]⟩ : ByteArray)) ++ (rdEl .str ((⟨#[110, 111]⟩ : ByteArray) :: ((⟨#[121, 101, 115]⟩ : ByteArray) :: ([] : List ByteArray))) (Int.toNat (rdEl (.int .i64) x0 (Int.toNat x4))))) ++ (⟨#[10]⟩ : ByteArray))) x2 x3 (IntKind.i64.wrap (x4 + (1 : Int))) x5 x6 x7 x8 x9 x10 x11 x12 x13 x14 x15 x16 x17 x18 x19 x20 x21 x22 x23 x24 x25 x26 x27))))))))) (
            test (decide (((ByteArray.size ((rdEl TRow x2 (Int.toNat x4))).1) + (ByteArray.size (⟨#[32]⟩ : ByteArray))) ≤ 9223372036854775807)) (
             test (decide (((ByteArray.size (((rdEl TRow x2 (Int.toNat x4))).1 ++ (⟨#[32]⟩ : ByteArray))) + (ByteArray.size (itoaB (rdEl (.int .i64) x0 (Int.toNat x4))))) ≤ 9223372036854775807)) (
              test (decide (((ByteArray.size ((((rdEl TRow x2 (Int.toNat x4))).1 ++ (⟨#[32]⟩ : ByteArray)) ++ (itoaB (rdEl (.int .i64) x0 (Int.toNat x4))))) + (ByteArray.size (⟨#[10]⟩ : ByteArray))) ≤ 9223372036854775807)) (
               test (decide (((ByteArray.size x1) + (ByteArray.size (((((rdEl TRow x2 (Int.toNat x4))).1 ++ (⟨#[32]⟩ : ByteArray)) ++ (itoaB (rdEl (.int .i64) x0 (Int.toNat x4)))) ++ (⟨#[10]⟩ : ByteArray)))) ≤ 9223372036854775807)) (
                textR.l1  m x0 (x1 ++ (((((rdEl TRow x2 (Int.toNat x4))).1 ++ (⟨#[32]⟩ : ByteArray)) ++ (itoaB (rdEl (.int .i64) x0 (Int.toNat x4)))) ++ (⟨#[10]⟩ : ByteArray))) x2 x3 (IntKind.i64.wrap (x4 + (1 : Int))) x5 x6 x7 x8 x9 x10 x11 x12 x13 x14 x15 x16 x17 x18 x19 x20 x21 x22 x23 x24 x25 x26 x27)))))) (
           cond ((ByteArray.toList ((rdEl TRow x2 (Int.toNat x4))).1) == (ByteArray.toList (⟨#[102, 97, 108, 108, 98, 97, 99, 107]⟩ : ByteArray))) (
            test (decide ((0 : Int) ≤ x4)) (
             test (decide (x4 < ((List.length x0) : Int))) (
              test (decide ((0 : Int) ≤ (rdEl (.int .i64) x0 (Int.toNat x4)))) (
               test (decide ((rdEl (.int .i64) x0 (Int.toNat x4)) < ((List.length ((⟨#[110, 111]⟩ : ByteArray) :: ((⟨#[121, 101, 115]⟩ : ByteArray) :: ([] : List ByteArray)))) : Int))) (
                test (decide (((ByteArray.size ((rdEl TRow x2 (Int.toNat x4))).1) + (ByteArray.size (⟨#[32]⟩ : ByteArray))) ≤ 9223372036854775807)) (
                 test (decide (((ByteArray.size (((rdEl TRow x2 (Int.toNat x4))).1 ++ (⟨#[32]⟩ : ByteArray))) + (ByteArray.size (rdEl .str ((⟨#[110, 111]⟩ : ByteArray) :: ((⟨#[121, 101, 115]⟩ : ByteArray) :: ([] : List ByteArray))) (Int.toNat (rdEl (.int .i64) x0 (Int.toNat x4)))))) ≤ 9223372036854775807)) (
                  test (decide (((ByteArray.size ((((rdEl TRow x2 (Int.toNat x4))).1 ++ (⟨#[32]⟩ : ByteArray)) ++ (rdEl .str ((⟨#[110, 111]⟩ : ByteArray) :: ((⟨#[121, 101, 115]⟩ : ByteArray) :: ([] : List ByteArray))) (Int.toNat (rdEl (.int .i64) x0 (Int.toNat x4)))))) + (ByteArray.size (⟨#[10]⟩ : ByteArray))) ≤ 9223372036854775807)) (
                   test (decide (((ByteArray.size x1) + (ByteArray.size (((((rdEl TRow x2 (Int.toNat x4))).1 ++ (⟨#[32]⟩ : ByteArray)) ++ (rdEl .str ((⟨#[110, 111]⟩ : ByteArray) :: ((⟨#[121, 101, 115]⟩ : ByteArray) :: ([] : List ByteArray))) (Int.toNat (rdEl (.int .i64) x0 (Int.toNat x4))))) ++ (⟨#[10]⟩ : ByteArray)))) ≤ 9223372036854775807)) (
                    textR.l1  m x0 (x1 ++ (((((rdEl TRow x2 (Int.toNat x4))).1 ++ (⟨#[32]⟩ : ByteArray)) ++ (rdEl .str ((⟨#[110, 111]⟩ : ByteArray) :: ((⟨#[121, 101, 115]⟩ : ByteArray) :: ([] : List ByteArray))) (Int.toNat (rdEl (.int .i64) x0 (Int.toNat x4))))) ++ (⟨#[10]⟩ : ByteArray))) x2 x3 (IntKind.i64.wrap (x4 + (1 : Int))) x5 x6 x7 x8 x9 x10 x11 x12 x13 x14 x15 x16 x17 x18 x19 x20 x21 x22 x23 x24 x25 x26 x27))))))))) (
            test (decide (((ByteArray.size ((rdEl TRow x2 (Int.toNat x4))).1) + (ByteArray.size (⟨#[32]⟩ : ByteArray))) ≤ 9223372036854775807)) (
             test (decide (((ByteArray.size (((rdEl TRow x2 (Int.toNat x4))).1 ++ (⟨#[32]⟩ : ByteArray))) + (ByteArray.size (itoaB (rdEl (.int .i64) x0 (Int.toNat x4))))) ≤ 9223372036854775807)) (
              test (decide (((ByteArray.size ((((rdEl TRow x2 (Int.toNat x4))).1 ++ (⟨#[32]⟩ : ByteArray)) ++ (itoaB (rdEl (.int .i64) x0 (Int.toNat x4))))) + (ByteArray.size (⟨#[10]⟩ : ByteArray))) ≤ 9223372036854775807)) (
               test (decide (((ByteArray.size x1) + (ByteArray.size (((((rdEl TRow x2 (Int.toNat x4))).1 ++ (⟨#[32]⟩ : ByteArray)) ++ (itoaB (rdEl (.int .i64) x0 (Int.toNat x4)))) ++ (⟨#[10]⟩ : ByteArray)))) ≤ 9223372036854775807)) (
                textR.l1  m x0 (x1 ++ (((((rdEl TRow x2 (Int.toNat x4))).1 ++ (⟨#[32]⟩ : ByteArray)) ++ (itoaB (rdEl (.int .i64) x0 (Int.toNat x4)))) ++ (⟨#[10]⟩ : ByteArray))) x2 x3 (IntKind.i64.wrap (x4 + (1 : Int))) x5 x6 x7 x8 x9 x10 x11 x12 x13 x14 x15 x16 x17 x18 x19 x20 x21 x22 x23 x24 x25 x26 x27)))))))))))))) (
   some ((.c (.v (.string x1))), [])) := by kernel_rfl
theorem textR.run_eq  (m : Nat) (x0 : (El TConfig)) : run (textR.cfg ) Tryd.f14.ntmps Tryd.f14.results.toList m [.code (bodyOf Tryd.f14)] (enter (ivA textR.ps (x0, ()))) = textR.go  m x0 := by kernel_rfl
theorem textR.ret  (hs : SpecsOK Tryd.prog (textR.specs ))  (x0 : (El TConfig)) {m : Nat} {r : IV} (h : textR.go  m x0 = some (r, [])) : VE.Returns Tryd.prog 14 (ivA textR.ps (x0, ())) r :=
  returns_of_run (cfg := textR.cfg ) (cfgOK_of mixed tab_ok hs .nil) rfl Tryd.func14 (body_some (by kernel_rfl)) (Nat.le_of_ble_eq_true (by kernel_rfl)) ((textR.run_eq  m x0).trans h)
abbrev textR.Law : Prop := ∀ (x0 : (El TConfig)), textR.pre (x0, ()) = true → VE.Returns Tryd.prog 14 (ivA textR.ps (x0, ())) (textR.res (x0, ()))
theorem textR.mkR (H : ∀ (x0 : (El TConfig)), textR.pre (x0, ()) = true → VE.Returns Tryd.prog 14 (ivA textR.ps (x0, ())) (textR.res (x0, ()))) : SpecOK Tryd.prog 14 textR.sp :=
  specOf_ret Tryd.func14 (by kernel_rfl) (by kernel_rfl) fun (x : (El TConfig) × Unit) hx => H (x.1) hx
theorem textR.mk  (hs : SpecsOK Tryd.prog (textR.specs ))  (H : ∀ (x0 : (El TConfig)), textR.pre (x0, ()) = true → ∃ m, textR.go  m x0 = some (textR.res (x0, ()), [])) : SpecOK Tryd.prog 14 textR.sp :=
  textR.mkR fun x0 hx => (H x0 hx).elim fun _ hm => textR.ret  hs  x0 hm

/-! ### triage/triageref1.Split -/
abbrev splitR.ps : List AK := [.d false .str]
def splitR.pre : ElA splitR.ps → Bool := fun (x : ByteArray × Unit) => fits .str (x.1) && (true)
noncomputable def splitR.res : ElA splitR.ps → IV := fun (x : ByteArray × Unit) => (fun s => .tup [.c (.sl TLine (splitL s).1), vi .i64 (splitL s).2.1, vi .i64 (splitL s).2.2]) x.1
noncomputable def splitR.sp : ISpec := spOf splitR.ps splitR.pre splitR.res
abbrev splitR.OK : Prop := SpecOK Tryd.prog 23 splitR.sp
noncomputable def splitR.body : Code := bodyOf Tryd.f23
noncomputable def splitR.rs : List ResultVar := Tryd.f23.results.toList
def splitR.live : List (Nat × Live) := [(23, ⟨[(5, .arr 45 TLine), (6, .plain), (10, .arr 9 .str), (17, .sl .str), (18, .plain), (19, .plain), (61, .sl .str), (62, .plain), (63, .plain)], []⟩), (16, ⟨[(5, .arr 45 TLine), (6, .plain), (7, .plain), (17, .sl .str), (18, .plain), (19, .plain), (48, .plain), (49, .plain)], []⟩), (10, ⟨[(5, .arr 45 TLine), (6, .plain), (7, .plain), (17, .sl .str), (18, .plain), (19, .plain), (30, .plain), (31, .plain)], []⟩), (5, ⟨[(5, .arr 45 TLine), (17, .sl .str), (18, .plain), (19, .plain)], []⟩)]
noncomputable def splitR.specs  : List (Nat × (List Bool × ISpec)) := [(19, ([], partsR.sp))]
noncomputable def splitR.ospecs  : List (Nat × OS) := []
noncomputable def splitR.cfg  : Cfg := ⟨lkp tab, lkp (splitR.specs ), lkp splitR.live, ⟨lkp (splitR.ospecs ), [], none, false, []⟩⟩
noncomputable def splitR.l1  (m : Nat) (x0 : List ByteArray) (x1 : Int) (x2 : Int) (x3 : List (El TLine)) : R := run (splitR.cfg ) 86 splitR.rs m ((todoR 5 splitR.body []).getD []) ⟨ofList (.c .junk) [(5, (.c (.sref 766))), (17, (.c (.sl .str x0))), (18, (.c (.v (.int .i64 x1)))), (19, (.c (.v (.int .i64 x2))))], ofList none [(766, some (.arr 45 TLine x3 false))], ofList false [(766, true)]⟩
noncomputable def splitR.l2  (m : Nat) (x0 : Int) (x1 : ByteArray) (x2 : List ByteArray) (x3 : Int) (x4 : Int) (x5 : Int) (x6 : Int) (x7 : List (El TLine)) : R := run (splitR.cfg ) 86 splitR.rs m ((todoR 10 splitR.body []).getD []) ⟨ofList (.c .junk) [(5, (.c (.sref 766))), (6, (.c (.v (.int .i64 x0)))), (7, (.c (.v (.string x1)))), (17, (.c (.sl .str x2))), (18, (.c (.v (.int .i64 x3)))), (19, (.c (.v (.int .i64 x4)))), (30, (.c (.v (.int .i64 x5)))), (31, (.c (.v (.int .i64 x6))))], ofList none [(766, some (.arr 45 TLine x7 false))], ofList false [(766, true)]⟩
noncomputable def splitR.l3  (m : Nat) (x0 : Int) (x1 : ByteArray) (x2 : List ByteArray) (x3 : Int) (x4 : Int) (x5 : Int) (x6 : Int) (x7 : List (El TLine)) : R := run (splitR.cfg ) 86 splitR.rs m ((todoR 16 splitR.body []).getD []) ⟨ofList (.c .junk) [(5, (.c (.sref 766))), (6, (.c (.v (.int .i64 x0)))), (7, (.c (.v (.string x1)))), (17, (.c (.sl .str x2))), (18, (.c (.v (.int .i64 x3)))), (19, (.c (.v (.int .i64 x4)))), (48, (.c (.v (.int .i64 x5)))), (49, (.c (.v (.int .i64 x6))))], ofList none [(766, some (.arr 45 TLine x7 false))], ofList false [(766, true)]⟩
noncomputable def splitR.l4  (m : Nat) (x0 : Int) (x1 : List ByteArray) (x2 : Int) (x3 : Int) (x4 : List ByteArray) (x5 : Int) (x6 : Int) (x7 : List (El TLine)) (x8 : List ByteArray) : R := run (splitR.cfg ) 86 splitR.rs m ((todoR 23 splitR.body []).getD []) ⟨ofList (.c .junk) [(5, (.c (.sref 766))), (6, (.c (.v (.int .i64 x0)))), (10, (.c (.sref 1406))), (17, (.c (.sl .str x1))), (18, (.c (.v (.int .i64 x2)))), (19, (.c (.v (.int .i64 x3)))), (61, (.c (.sl .str x4))), (62, (.c (.v (.int .i64 x5)))), (63, (.c (.v (.int .i64 x6))))], ofList none [(766, some (.arr 45 TLine x7 false)), (1406, some (.arr 9 .str x8 false))], ofList false [(766, true), (1406, true)]⟩
noncomputable def splitR.go  (m : Nat) (x0 : ByteArray) : R := run (splitR.cfg ) 86 splitR.rs m [.code splitR.body] (enter (ivA splitR.ps (x0, ())))
theorem splitR.start  (m : Nat) (x0 : ByteArray) : splitR.go  (m + 1) x0 =
  cond (decide (((ByteArray.size x0) : Int) > (4000 : Int))) (
   some ((.tup [(.c (.v (.slice none 0 0))), (.c (.v (.int .i64 (0 : Int)))), (.c (.v (.int .i64 (2 : Int))))]), [])) (
   test (partsR.pre (x0, ((10 : Int), Unit.unit))) (
    splitR.l1  m (partsL x0 (10 : Int)) ((List.length (partsL x0 (10 : Int))) : Int) (0 : Int) ([] : List (El TLine)))) := by kernel_rfl
theorem splitR.s1  (m : Nat) (x0 : List ByteArray) (x1 : Int) (x2 : Int) (x3 : List (El TLine)) : splitR.l1  (m + 1) x0 x1 x2 x3 =
  cond (decide (x2 < x1)) (
   test (decide ((0 : Int) ≤ x2)) (
    test (decide (x2 < ((List.length x0) : Int))) (
     cond (decide (((ByteArray.size (rdEl .str x0 (Int.toNat x2))) : Int) > (200 : Int))) (
      some ((.tup [(.c (.v (.slice none 0 0))), (.c (.v (.int .i64 (IntKind.i64.wrap (x2 + (1 : Int)))))), (.c (.v (.int .i64 (2 : Int))))]), [])) (
      splitR.l2  m x2 (rdEl .str x0 (Int.toNat x2)) x0 x1 x2 ((ByteArray.size (rdEl .str x0 (Int.toNat x2))) : Int) (0 : Int) x3)))) (
   some ((.tup [(.c (.sl TLine x3)), (.c (.v (.int .i64 (0 : Int)))), (.c (.v (.int .i64 (0 : Int))))]), [])) := by kernel_rfl
theorem splitR.s2  (m : Nat) (x0 : Int) (x1 : ByteArray) (x2 : List ByteArray) (x3 : Int) (x4 : Int) (x5 : Int) (x6 : Int) (x7 : List (El TLine)) : splitR.l2  (m + 1) x0 x1 x2 x3 x4 x5 x6 x7 =
  cond (decide (x6 < x5)) (
   test (decide ((0 : Int) ≤ x6)) (
    test (decide (x6 < ((ByteArray.size x1) : Int))) (
     cond (decide ((byteAt x1 x6) < (32 : Int))) (
      some ((.tup [(.c (.v (.slice none 0 0))), (.c (.v (.int .i64 (IntKind.i64.wrap (x0 + (1 : Int)))))), (.c (.v (.int .i64 (2 : Int))))]), [])) (
      test (decide ((0 : Int) ≤ x6)) (
       test (decide (x6 < ((ByteArray.size x1) : Int))) (
        cond (decide ((byteAt x1 x6) > (126 : Int))) (
         some ((.tup [(.c (.v (.slice none 0 0))), (.c (.v (.int .i64 (IntKind.i64.wrap (x0 + (1 : Int)))))), (.c (.v (.int .i64 (2 : Int))))]), [])) (
         splitR.l2  m x0 x1 x2 x3 x4 x5 (IntKind.i64.wrap (x6 + (1 : Int))) x7))))))) (
   splitR.l3  m x0 x1 x2 x3 x4 ((ByteArray.size x1) : Int) (0 : Int) x7) := by kernel_rfl
theorem splitR.s3  (m : Nat) (x0 : Int) (x1 : ByteArray) (x2 : List ByteArray) (x3 : Int) (x4 : Int) (x5 : Int) (x6 : Int) (x7 : List (El TLine)) : splitR.l3  (m + 1) x0 x1 x2 x3 x4 x5 x6 x7 =
  cond (decide (x6 < x5)) (
   test (decide ((0 : Int) ≤ x6)) (
    test (decide (x6 < ((ByteArray.size x1) : Int))) (
     cond ((byteAt x1 x6) == (35 : Int)) (
      test (decide ((0 : Int) ≤ x6)) (
       test (decide (x6 ≤ ((ByteArray.size x1) : Int))) (
        test (partsR.pre ((ByteArray.extract x1 0 (Int.toNat x6)), ((32 : Int), Unit.unit))) (
         splitR.l4  m x0 x2 x3 x4 (partsL (ByteArray.extract x1 0 (Int.toNat x6)) (32 : Int)) ((List.length (partsL (ByteArray.extract x1 0 (Int.toNat x6)) (32 : Int))) : Int) (0 : Int) x7 ([] : List ByteArray))))) (
      splitR.l3  m x0 x1 x2 x3 x4 x5 (IntKind.i64.wrap (x6 + (1 : Int))) x7)))) (
   test (partsR.pre (x1, ((32 : Int), Unit.unit))) (
    splitR.l4  m x0 x2 x3 x4 (partsL x1 (32 : Int)) ((List.length (partsL x1 (32 : Int))) : Int) (0 : Int) x7 ([] : List ByteArray))) := by kernel_rfl
theorem splitR.s4  (m : Nat) (x0 : Int) (x1 : List ByteArray) (x2 : Int) (x3 : Int) (x4 : List ByteArray) (x5 : Int) (x6 : Int) (x7 : List (El TLine)) (x8 : List ByteArray) : splitR.l4  (m + 1) x0 x1 x2 x3 x4 x5 x6 x7 x8 =
  cond (decide (x6 < x5)) (
   test (decide ((0 : Int) ≤ x6)) (
    test (decide (x6 < ((List.length x4) : Int))) (
     cond (Bool.not ((ByteArray.toList (rdEl .str x4 (Int.toNat x6))) == (ByteArray.toList (⟨#[]⟩ : ByteArray)))) (
      test (decide (((List.length x8) + (List.length ((rdEl .str x4 (Int.toNat x6)) :: ([] : List ByteArray)))) ≤ (lim 16))) (
       splitR.l4  m x0 x1 x2 x3 x4 x5 (IntKind.i64.wrap (x6 + (1 : Int))) x7 (x8 ++ ((rdEl .str x4 (Int.toNat x6)) :: ([] : List ByteArray))))) (
      splitR.l4  m x0 x1 x2 x3 x4 x5 (IntKind.i64.wrap (x6 + (1 : Int))) x7 x8)))) (
   cond (decide (((List.length x8) : Int) > (0 : Int))) (
    test (decide (((List.length x7) + (List.length (((IntKind.i64.wrap (x0 + (1 : Int))), x8) :: ([] : List (El TLine))))) ≤ (lim 32))) (
     splitR.l1  m x1 x2 (IntKind.i64.wrap (x3 + (1 : Int))) (x7 ++ (((IntKind.i64.wrap (x0 + (1 : Int))), x8) :: ([] : List (El TLine)))))) (
    splitR.l1  m x1 x2 (IntKind.i64.wrap (x3 + (1 : Int))) x7)) := by kernel_rfl
theorem splitR.run_eq  (m : Nat) (x0 : ByteArray) : run (splitR.cfg ) Tryd.f23.ntmps Tryd.f23.results.toList m [.code (bodyOf Tryd.f23)] (enter (ivA splitR.ps (x0, ()))) = splitR.go  m x0 := by kernel_rfl
theorem splitR.ret  (hs : SpecsOK Tryd.prog (splitR.specs ))  (x0 : ByteArray) {m : Nat} {r : IV} (h : splitR.go  m x0 = some (r, [])) : VE.Returns Tryd.prog 23 (ivA splitR.ps (x0, ())) r :=
  returns_of_run (cfg := splitR.cfg ) (cfgOK_of mixed tab_ok hs .nil) rfl Tryd.func23 (body_some (by kernel_rfl)) (Nat.le_of_ble_eq_true (by kernel_rfl)) ((splitR.run_eq  m x0).trans h)
abbrev splitR.Law : Prop := ∀ (x0 : ByteArray), splitR.pre (x0, ()) = true → VE.Returns Tryd.prog 23 (ivA splitR.ps (x0, ())) (splitR.res (x0, ()))
theorem splitR.mkR (H : ∀ (x0 : ByteArray), splitR.pre (x0, ()) = true → VE.Returns Tryd.prog 23 (ivA splitR.ps (x0, ())) (splitR.res (x0, ()))) : SpecOK Tryd.prog 23 splitR.sp :=
  specOf_ret Tryd.func23 (by kernel_rfl) (by kernel_rfl) fun (x : ByteArray × Unit) hx => H (x.1) hx
theorem splitR.mk  (hs : SpecsOK Tryd.prog (splitR.specs ))  (H : ∀ (x0 : ByteArray), splitR.pre (x0, ()) = true → ∃ m, splitR.go  m x0 = some (splitR.res (x0, ()), [])) : SpecOK Tryd.prog 23 splitR.sp :=
  splitR.mkR fun x0 hx => (H x0 hx).elim fun _ hm => splitR.ret  hs  x0 hm

/-! ### triage/triagelaw6.awake -/
abbrev awake.ps : List AK := []
def awake.pre : ElA awake.ps → Bool := fun (x : Unit) => true
noncomputable def awake.res : ElA awake.ps → IV := fun (x : Unit) => (vb true) 
noncomputable def awake.sp : ISpec := spOf awake.ps awake.pre awake.res
abbrev awake.OK : Prop := SpecOK Tryd.prog 10 awake.sp
noncomputable def awake.body : Code := bodyOf Tryd.f10
noncomputable def awake.rs : List ResultVar := Tryd.f10.results.toList
def awake.live : List (Nat × Live) := []
noncomputable def awake.specs  : List (Nat × (List Bool × ISpec)) := [(11, ([], parse.sp)), (17, ([], cDef.sp)), (15, ([], cMay.sp)), (13, ([], text.sp))]
noncomputable def awake.ospecs  : List (Nat × OS) := []
noncomputable def awake.cfg  : Cfg := ⟨lkp tab, lkp (awake.specs ), lkp awake.live, ⟨lkp (awake.ospecs ), [], none, false, []⟩⟩
noncomputable def awake.go  (m : Nat)  : R := run (awake.cfg ) 46 awake.rs m [.code awake.body] (enter (ivA awake.ps ()))
theorem awake.start  (m : Nat)  : awake.go  (m + 1)  =
  some ((.c (.v (.bool (Bool.not ((ByteArray.toList (textC defC)) == (ByteArray.toList (⟨#[]⟩ : ByteArray))))))), []) := by kernel_rfl
theorem awake.run_eq  (m : Nat)  : run (awake.cfg ) Tryd.f10.ntmps Tryd.f10.results.toList m [.code (bodyOf Tryd.f10)] (enter (ivA awake.ps ())) = awake.go  m  := by kernel_rfl
theorem awake.ret  (hs : SpecsOK Tryd.prog (awake.specs ))   {m : Nat} {r : IV} (h : awake.go  m  = some (r, [])) : VE.Returns Tryd.prog 10 (ivA awake.ps ()) r :=
  returns_of_run (cfg := awake.cfg ) (cfgOK_of mixed tab_ok hs .nil) rfl Tryd.func10 (body_some (by kernel_rfl)) (Nat.le_of_ble_eq_true (by kernel_rfl)) ((awake.run_eq  m ).trans h)
abbrev awake.Law : Prop := ∀ (_ : Unit), awake.pre () = true → VE.Returns Tryd.prog 10 (ivA awake.ps ()) (awake.res ())
theorem awake.mkR (H : ∀ (_ : Unit), awake.pre () = true → VE.Returns Tryd.prog 10 (ivA awake.ps ()) (awake.res ())) : SpecOK Tryd.prog 10 awake.sp :=
  specOf_ret Tryd.func10 (by kernel_rfl) (by kernel_rfl) fun (x : Unit) hx => H () hx
theorem awake.mk  (hs : SpecsOK Tryd.prog (awake.specs ))  (H : ∀ (_ : Unit), awake.pre () = true → ∃ m, awake.go  m  = some (awake.res (), [])) : SpecOK Tryd.prog 10 awake.sp :=
  awake.mkR fun _ hx => (H () hx).elim fun _ hm => awake.ret  hs   hm


end Go.Proofs.YtlakpbfmcnlnbaaDoor
namespace Go.Proofs.YtlakpbfmcnlnbaaDoor
open Go VE

abbrev Met : Type := List (ByteArray × Int × Nat)
def gM (a : ByteArray) (m : Met) : Int := getE .str (.int .i64) (0 : Int) a m
theorem gM_cons (a : ByteArray) (e : ByteArray × Int × Nat) (m : Met) : gM a (e :: m) = bif a.toList == e.1.toList then e.2.1 else gM a m := rfl
theorem gM_set : ∀ (m : Met) (c : Nat) (x : ByteArray) (v : Int) (y : ByteArray), gM y (setE .str (.int .i64) c x v m) = bif y.toList == x.toList then v else gM y m
  | [], c, x, v, y => rfl
  | e :: m, c, x, v, y => by
    have ih := gM_set m c x v y
    have e0 : setE .str (.int .i64) c x v (e :: m) = bif x.toList == e.1.toList then (e.1, v, e.2.2) :: m else e :: setE .str (.int .i64) c x v m := rfl
    rw [e0]
    cases hx : x.toList == e.1.toList with
    | true =>
      have hx := eq_of_beq hx
      rw [cond_true, gM_cons, gM_cons]
      show (bif y.toList == e.1.toList then v else gM y m) = _
      rw [hx]
      cases y.toList == e.1.toList <;> rfl
    | false =>
      rw [cond_false, gM_cons, gM_cons, ih]
      cases hy : y.toList == e.1.toList with
      | false => rfl
      | true =>
        have hy := eq_of_beq hy
        have : (y.toList == x.toList) = false := by
          rw [hy, Bool.beq_comm]
          exact hx
        rw [this]; rfl

theorem rowAt_inj {a b : ByteArray} {i : Nat} (ha : rowAt a = some i) (hb : rowAt b = some i) : a.toList = b.toList := by
  have key : ∀ (l : List (List UInt8)) (k : Nat) (x : List UInt8), atL x l k = some i → k ≤ i ∧ l[i - k]? = some x := by
    intro l
    induction l with
    | nil => intro k x h; cases h
    | cons r l ih =>
      intro k x h
      unfold atL at h
      cases e : r == x
      · rw [e] at h
        obtain ⟨h1, h2⟩ := ih (k + 1) x h
        refine ⟨by omega, ?_⟩
        rw [show i - k = (i - (k + 1)) + 1 by omega]
        exact h2
      · rw [e] at h
        cases h
        refine ⟨Nat.le_refl _, ?_⟩
        rw [Nat.sub_self, ← eq_of_beq e]; rfl
  rw [rowAt_eq] at ha hb
  have h1 := (key _ _ _ ha).2
  have h2 := (key _ _ _ hb).2
  rw [h1] at h2
  exact Option.some.inj h2

/-- What has been met. -/
def MetOK (m : Met) (seen : List Nat) : Prop := ∀ a, gM a m = if (∃ i ∈ seen, rowAt a = some i) then 1 else 0
theorem MetOK.add {m : Met} {seen : List Nat} (h : MetOK m seen) {a : ByteArray} {i : Nat} (ha : rowAt a = some i) (c : Nat) : MetOK (setE .str (.int .i64) c a 1 m) (i :: seen) := fun y => by
  rw [gM_set]
  cases e : y.toList == a.toList with
  | true =>
    have e := eq_of_beq e
    have hy : rowAt y = some i := by
      have h1 := rowAt_eq y
      rw [e, ← rowAt_eq a, ha] at h1
      exact h1
    rw [cond_true, if_pos ⟨i, List.mem_cons_self .., hy⟩]
  | false =>
    rw [cond_false, h y]
    have : (∃ j ∈ i :: seen, rowAt y = some j) ↔ (∃ j ∈ seen, rowAt y = some j) := by
      constructor
      · rintro ⟨j, hj, hy⟩
        rcases List.mem_cons.1 hj with rfl | hj
        · rw [rowAt_inj hy ha] at e
          simp at e
        · exact ⟨j, hj, hy⟩
      · rintro ⟨j, hj, hy⟩
        exact ⟨j, List.mem_cons_of_mem _ hj, hy⟩
    by_cases h1 : ∃ j ∈ seen, rowAt y = some j
    · rw [if_pos h1, if_pos (this.2 h1)]
    · rw [if_neg h1, if_neg (fun h => h1 (this.1 h))]

/-! ### what fits -/

theorem good_fits {n : List Int} {z : ByteArray} (h : Good n z) : fits TConfig (madeC n z) = true := by
  have k : ∀ i, i < 23 → fits (.int .i64) (nth n i) = true := fun i _ => rfl
  have hz : fits .str z = true := by
    rcases zone_cases h.zone with rfl | hz
    · rfl
    · have := (name_plain hz).2.2
      exact str_fits (by omega)
  show (fits (.int .i64) (nth n 0) && (fits (.int .i64) (nth n 1) && (fits (.int .i64) (nth n 2) && (fits (.int .i64) (nth n 3) && (fits (.int .i64) (nth n 4) && (fits (.int .i64) (nth n 5) && (fits (.int .i64) (nth n 6) && (fits (.int .i64) (nth n 7) && (fits (.int .i64) (nth n 8) && (fits (.int .i64) (nth n 9) && (fits (.int .i64) (nth n 10) && (fits (.int .i64) (nth n 11) && (fits (.int .i64) (nth n 12) && (fits (.int .i64) (nth n 13) && (fits (.int .i64) (nth n 14) && (true && (fits (.int .i64) (nth n 16) && (fits (.int .i64) (nth n 17) && (fits (.int .i64) (nth n 18) && (fits (.int .i64) (nth n 19) && (fits (.int .i64) (nth n 20) && (fits .str z && true)))))))))))))))))))))) = true
  rw [k 0 (by decide), k 1 (by decide), k 2 (by decide), k 3 (by decide), k 4 (by decide), k 5 (by decide), k 6 (by decide), k 7 (by decide), k 8 (by decide), k 9 (by decide), k 10 (by decide), k 11 (by decide), k 12 (by decide), k 13 (by decide), k 14 (by decide), k 16 (by decide), k 17 (by decide), k 18 (by decide), k 19 (by decide), k 20 (by decide), hz]
  rfl
theorem may_fits {c : El TConfig} (h : mayC c = true) : fits TConfig c = true := by
  have := good_fits (good_may h)
  rw [made_back] at this
  exact this
theorem set_pre {c : El TConfig} (h : fits TConfig c = true) {a v : ByteArray} (ha : a.size ≤ 1000000) (hv : v.size ≤ 1000000) : set.pre (c, a, v, ()) = true := by
  show (fits TConfig c && (fits .str a && (fits .str v && (decide (ByteArray.size a ≤ 1000000 ∧ ByteArray.size v ≤ 1000000) && true)))) = true
  rw [h, str_fits ha, str_fits hv, dec_t ⟨ha, hv⟩]; rfl

/-- Words of a text's lines are small. -/
def Small (l : List Ln) : Prop := ∀ x ∈ l, ∀ w ∈ x.2, w.size ≤ 200
theorem wl_small {x : List UInt8} (h : ml x = true) : ∀ w ∈ (wl x).map mk, w.size ≤ 200 := fun w hw => by
  obtain ⟨y, hy, rfl⟩ := List.mem_map.1 hw
  unfold wl at hy
  have h1 := (spl_part (List.mem_filter.1 hy).1).2
  have h2 : (x.takeWhile (· != 35)).length ≤ x.length := (List.takeWhile_sublist _).length_le
  unfold ml at h
  have h3 : x.length ≤ 200 := of_decide_eq_true (Bool.and_eq_true_iff.1 h).2
  rw [mk_size]; omega
theorem sg_small : ∀ (l : List (List UInt8)) (i : Nat) (out : List Ln), Small out → Small (sg l i out).1
  | [], i, out, h => h
  | x :: l, i, out, h => by
    rw [sg]
    split
    · rename_i hm
      refine sg_small l (i + 1) _ fun y hy => ?_
      split at hy
      · exact h y hy
      · rcases List.mem_append.1 hy with hy | hy
        · exact h y hy
        · rw [List.mem_singleton.1 hy]
          exact wl_small hm
    · intro y hy; cases hy
theorem split_small (s : ByteArray) : Small (splitL s).1 := by
  by_cases h : s.size ≤ 4000
  · rw [splitL_eq h]; exact sg_small _ _ _ fun x hx => by cases hx
  · unfold splitL
    rw [if_pos (by omega)]
    intro x hx; cases hx
theorem split_pre {s : ByteArray} (h : s.size ≤ 1000000) : split.pre (s, ()) = true := by
  show (fits .str s && (decide (ByteArray.size s ≤ 1000000) && true)) = true
  rw [str_fits h, dec_t h]; rfl
theorem sg_len : ∀ (l : List (List UInt8)) (i : Nat) (out : List Ln), (sg l i out).1.length ≤ out.length + l.length
  | [], i, out => Nat.le_refl _
  | x :: l, i, out => by
    rw [sg]
    split
    · have := sg_len l (i + 1) (if (wl x).length = 0 then out else out ++ [((i : Int) + 1, (wl x).map mk)])
      split at this
      · rename_i h; rw [if_pos h]; simp; omega
      · rename_i h; rw [if_neg h]; simp at this ⊢; omega
    · exact Nat.zero_le _
theorem spl_length (c : Int) : ∀ l : List UInt8, (spl c l).length ≤ l.length + 1
  | [] => Nat.le_refl _
  | b :: l => by
    have ih := spl_length c l
    by_cases h : (b.toNat : Int) = c
    · rw [spl_sep h]; simp; omega
    · obtain ⟨x, r, e⟩ := spl_cons c l
      rw [spl_on h e]
      rw [e] at ih
      simp at ih ⊢; omega
theorem split_len (s : ByteArray) : (splitL s).1.length ≤ 4001 := by
  by_cases h : s.size ≤ 4000
  · rw [splitL_eq h]
    have h1 := sg_len (spl 10 (bs s)) 0 []
    have h2 := spl_length 10 (bs s)
    rw [bs_length] at h2
    simp at h1
    omega
  · unfold splitL
    rw [if_pos (by omega)]; exact Nat.zero_le _

/-! ### the loop -/

noncomputable def pl (m : Nat) (l : List Ln) (N k : Int) (c : El TConfig) (es : Met) (t : Nat) : R :=
  parse.l1 m l N k 0 0 0 0 0 0 0 0 0 0 0 0 0 0 0 false 0 0 0 0 0 ⟨#[]⟩ false c.1 c.2.1 c.2.2.1 c.2.2.2.1 c.2.2.2.2.1 c.2.2.2.2.2.1 c.2.2.2.2.2.2.1 c.2.2.2.2.2.2.2.1 c.2.2.2.2.2.2.2.2.1 c.2.2.2.2.2.2.2.2.2.1 c.2.2.2.2.2.2.2.2.2.2.1 c.2.2.2.2.2.2.2.2.2.2.2.1 c.2.2.2.2.2.2.2.2.2.2.2.2.1 c.2.2.2.2.2.2.2.2.2.2.2.2.2.1 c.2.2.2.2.2.2.2.2.2.2.2.2.2.2.1 c.2.2.2.2.2.2.2.2.2.2.2.2.2.2.2.1 c.2.2.2.2.2.2.2.2.2.2.2.2.2.2.2.2.1 c.2.2.2.2.2.2.2.2.2.2.2.2.2.2.2.2.2.1 c.2.2.2.2.2.2.2.2.2.2.2.2.2.2.2.2.2.2.1 c.2.2.2.2.2.2.2.2.2.2.2.2.2.2.2.2.2.2.2.1 c.2.2.2.2.2.2.2.2.2.2.2.2.2.2.2.2.2.2.2.2.1 c.2.2.2.2.2.2.2.2.2.2.2.2.2.2.2.2.2.2.2.2.2.1 c.2.2.2.2.2.2.2.2.2.2.2.2.2.2.2.2.2.2.2.2.2.2 es t
noncomputable def pr (c : El TConfig) (k e : Int) : R := some (.tup [mkIV true (enc TConfig c), vi .i64 k, vi .i64 e], [])
/-- One round. -/
theorem pl_step (m : Nat) (l : List Ln) (N k : Int) (c : El TConfig) (es : Met) (t : Nat) : pl (m + 1) l N k c es t =
    cond (decide (k < N)) (
     test (decide ((0 : Int) ≤ k)) (
      test (decide (k < (l.length : Int))) (
       cond (bne ((List.length ((rdEl TLine l (Int.toNat k))).2) : Int) (2 : Int)) (pr zeroC (rdEl TLine l (Int.toNat k)).1 2) (
        test (decide ((0 : Int) < ((List.length ((rdEl TLine l (Int.toNat k))).2) : Int))) (
         cond (decide (gM (rdEl .str ((rdEl TLine l (Int.toNat k))).2 0) es > (0 : Int))) (pr zeroC (rdEl TLine l (Int.toNat k)).1 2) (
          test (decide ((0 : Int) < ((List.length ((rdEl TLine l (Int.toNat k))).2) : Int))) (
           test (decide ((1 : Int) < ((List.length ((rdEl TLine l (Int.toNat k))).2) : Int))) (
            test (set.pre (c, rdEl .str ((rdEl TLine l (Int.toNat k))).2 0, rdEl .str ((rdEl TLine l (Int.toNat k))).2 1, ())) (
             cond (Bool.not (setOk c (rdEl .str ((rdEl TLine l (Int.toNat k))).2 0) (rdEl .str ((rdEl TLine l (Int.toNat k))).2 1))) (pr zeroC (rdEl TLine l (Int.toNat k)).1 2) (
              test (decide ((0 : Int) < ((List.length ((rdEl TLine l (Int.toNat k))).2) : Int))) (
               pl m l N (IntKind.i64.wrap (k + 1)) (setC c (rdEl .str ((rdEl TLine l (Int.toNat k))).2 0) (rdEl .str ((rdEl TLine l (Int.toNat k))).2 1))
                (setE .str (.int .i64) t (rdEl .str ((rdEl TLine l (Int.toNat k))).2 0) (IntKind.i64.wrap (gM (rdEl .str ((rdEl TLine l (Int.toNat k))).2 0) es + 1)) es) (clockE .str (.int .i64) t (rdEl .str ((rdEl TLine l (Int.toNat k))).2 0) es)))))))))))) (pr c 0 0) :=
  parse.s1 m l N k 0 0 0 0 0 0 0 0 0 0 0 0 0 0 0 false 0 0 0 0 0 ⟨#[]⟩ false c.1 c.2.1 c.2.2.1 c.2.2.2.1 c.2.2.2.2.1 c.2.2.2.2.2.1 c.2.2.2.2.2.2.1 c.2.2.2.2.2.2.2.1 c.2.2.2.2.2.2.2.2.1 c.2.2.2.2.2.2.2.2.2.1 c.2.2.2.2.2.2.2.2.2.2.1 c.2.2.2.2.2.2.2.2.2.2.2.1 c.2.2.2.2.2.2.2.2.2.2.2.2.1 c.2.2.2.2.2.2.2.2.2.2.2.2.2.1 c.2.2.2.2.2.2.2.2.2.2.2.2.2.2.1 c.2.2.2.2.2.2.2.2.2.2.2.2.2.2.2.1 c.2.2.2.2.2.2.2.2.2.2.2.2.2.2.2.2.1 c.2.2.2.2.2.2.2.2.2.2.2.2.2.2.2.2.2.1 c.2.2.2.2.2.2.2.2.2.2.2.2.2.2.2.2.2.2.1 c.2.2.2.2.2.2.2.2.2.2.2.2.2.2.2.2.2.2.2.1 c.2.2.2.2.2.2.2.2.2.2.2.2.2.2.2.2.2.2.2.2.1 c.2.2.2.2.2.2.2.2.2.2.2.2.2.2.2.2.2.2.2.2.2.1 c.2.2.2.2.2.2.2.2.2.2.2.2.2.2.2.2.2.2.2.2.2.2 es t

noncomputable def endG (g : Option (List Int × ByteArray) × Int) : R := match g with | (some r, _) => pr (madeC r.1 r.2) 0 0 | (none, k) => pr zeroC k 2

theorem parse_l1 {l : List Ln} (hs : Small l) (hlen : l.length ≤ 4001) : ∀ (d k : Nat) (m : Nat) (n : List Int) (z : ByteArray) (es : Met) (t : Nat) (seen : List Nat), k + d = l.length → Good n z → MetOK es seen →
    pl (m + d + 1) l (l.length : Int) (k : Int) (madeC n z) es t = endG (parseG (l.drop k) n z seen)
  | 0, k, m, n, z, es, t, seen, h, hG, hM => by
    rw [pl_step, cond_df (by omega), List.drop_eq_nil_of_le (by omega), parseG]
    rfl
  | d + 1, k, m, n, z, es, t, seen, h, hG, hM => by
    have hd : l.drop k = rdEl TLine l k :: l.drop (k + 1) := rdEl_drop (t := TLine) l (show k < l.length by omega)
    have hm : rdEl TLine l k ∈ l := by
      have : rdEl TLine l k ∈ l.drop k := by rw [hd]; exact List.mem_cons_self ..
      exact List.mem_of_mem_drop this
    have hsm := hs _ hm
    rw [show m + (d + 1) + 1 = (m + d + 1) + 1 by omega, pl_step, cond_dt (by omega), test_d (by omega), test_d (by omega), toNat_cast, hd]
    generalize rdEl TLine l k = x at *
    obtain ⟨no, w⟩ := x
    rw [parseG]
    rcases w with _ | ⟨a, _ | ⟨v, _ | ⟨c, r⟩⟩⟩
    · rfl
    · rfl
    rotate_left
    · have : (bne (((a :: v :: c :: r : List ByteArray).length : Nat) : Int) 2) = true := by
        have : ¬ (((a :: v :: c :: r : List ByteArray).length : Nat) : Int) = 2 := by simp; omega
        simpa using this
      show cond (bne (((a :: v :: c :: r : List ByteArray).length : Nat) : Int) 2) _ _ = _
      rw [this]
      rfl
    · have ha := hsm a (List.mem_cons_self ..)
      have hv := hsm v (List.mem_cons_of_mem _ (List.mem_cons_self ..))
      have hmet := hM a
      show cond (decide (gM a es > (0 : Int))) (pr zeroC no 2) (test (set.pre (madeC n z, a, v, ())) (cond (Bool.not (setOk (madeC n z) a v)) (pr zeroC no 2) (pl (m + d + 1) l (l.length : Int) (IntKind.i64.wrap ((k : Int) + 1)) (setC (madeC n z) a v) (setE .str (.int .i64) t a (IntKind.i64.wrap (gM a es + 1)) es) (clockE .str (.int .i64) t a es)))) = _
      have hok : setOk (madeC n z) a v = match rowAt a with | some i => (setN n z i v).1 | none => false := by
        unfold setOk; rw [nums_made hG]; rfl
      have hsc : setC (madeC n z) a v = match rowAt a with | some i => madeC (setN n z i v).2.1 (setN n z i v).2.2 | none => madeC n z := by
        unfold setC; rw [nums_made hG]; rfl
      have hpre := set_pre (good_fits hG) (a := a) (v := v) (by omega) (by omega)
      rw [test_true hpre]
      cases hr : rowAt a with
      | none =>
        rw [hr] at hok
        have h0 : gM a es = 0 := by
          rw [hmet, if_neg]
          rintro ⟨i, _, hi⟩
          rw [hr] at hi; cases hi
        rw [h0, hok]
        simp only [hr]
        rfl
      | some i =>
        rw [hr] at hok hsc
        by_cases hi : i ∈ seen
        · have h1 : gM a es = 1 := by rw [hmet, if_pos ⟨i, hi, hr⟩]
          rw [h1]
          simp only [hr, if_pos hi]
          rfl
        · have h0 : gM a es = 0 := by
            rw [hmet, if_neg]
            rintro ⟨j, hj, hj2⟩
            rw [hr] at hj2
            cases hj2
            exact hi hj
          rw [h0, hok, hsc]
          simp only [hr, if_neg hi]
          cases hb : (setN n z i v).1 with
          | false => rfl
          | true =>
            have hG2 := set_good hG (rowAt_lt hr) hb
            have ih := parse_l1 hs hlen d (k + 1) m (setN n z i v).2.1 (setN n z i v).2.2 (setE .str (.int .i64) t a 1 es) (clockE .str (.int .i64) t a es) (i :: seen) (by omega) hG2 (hM.add hr t)
            show pl (m + d + 1) l (l.length : Int) (IntKind.i64.wrap ((k : Int) + 1)) (madeC (setN n z i v).2.1 (setN n z i v).2.2) (setE .str (.int .i64) t a (IntKind.i64.wrap (0 + 1)) es) _ = _
            rw [w64s (by omega), if_pos rfl]
            exact ih

theorem parse_ok : parse.OK := parse.mk (split_ok.cons' (cDef_ok.cons' .nil)) (set_ok.cons' .nil) fun s hx => by
  have h : (fits .str s && (decide (ByteArray.size s ≤ 1000000) && true)) = true := hx
  simp only [Bool.and_eq_true, decide_eq_true_eq] at h
  have hs := h.2.1
  have hl := parse_l1 (split_small s) (split_len s) (splitL s).1.length 0 0 (numsL defC) ⟨#[]⟩ [] 0 [] (by omega) def_good (fun a => by rw [if_neg]; rfl; rintro ⟨i, hi, _⟩; cases hi)
  refine ⟨0 + (splitL s).1.length + 1 + 1, ?_⟩
  rw [parse.start, test_true (split_pre hs)]
  have hres : some (parse.res (s, ()), []) = pr (parseC s).1 (parseC s).2.1 (parseC s).2.2 := rfl
  rw [hres]
  unfold parseC
  obtain ⟨h1, _, _⟩ := splitL_pos s
  by_cases e : (splitL s).2.2 = 0
  · rw [if_pos e]
    have eb : bne (splitL s).2.2 (0 : Int) = false := by rw [e]; rfl
    rw [eb, cond_false]
    refine (show _ = pl (0 + (splitL s).1.length + 1) (splitL s).1 ((splitL s).1.length : Int) 0 (madeC (numsL defC) ⟨#[]⟩) [] 0 from rfl).trans (hl.trans ?_)
    rw [List.drop_zero]
    cases parseG (splitL s).1 (numsL defC) ⟨#[]⟩ [] with
    | mk r k => cases r <;> rfl
  · rw [if_neg e]
    have eb : bne (splitL s).2.2 (0 : Int) = true := by simpa using e
    rw [eb, cond_true]
    rfl

end Go.Proofs.YtlakpbfmcnlnbaaDoor
namespace Go.Proofs.YtlakpbfmcnlnbaaDoor
open Go VE

theorem add4 {nm v X : ByteArray} (h1 : nm.size ≤ 12) (h2 : v.size ≤ 21) (h3 : X.size ≤ 100000) (Y : R) :
    test (decide (((ByteArray.size nm) + (ByteArray.size (⟨#[32]⟩ : ByteArray))) ≤ 9223372036854775807)) (test (decide (((ByteArray.size (nm ++ (⟨#[32]⟩ : ByteArray))) + (ByteArray.size v)) ≤ 9223372036854775807)) (
      test (decide (((ByteArray.size ((nm ++ (⟨#[32]⟩ : ByteArray)) ++ v)) + (ByteArray.size (⟨#[10]⟩ : ByteArray))) ≤ 9223372036854775807)) (
      test (decide (((ByteArray.size X) + (ByteArray.size (((nm ++ (⟨#[32]⟩ : ByteArray)) ++ v) ++ (⟨#[10]⟩ : ByteArray)))) ≤ 9223372036854775807)) Y))) = Y := by
  have q1 : (⟨#[32]⟩ : ByteArray).size = 1 := rfl
  have q2 : (⟨#[10]⟩ : ByteArray).size = 1 := rfl
  rw [test_d (by omega), test_d (by rw [ByteArray.size_append]; omega), test_d (by rw [ByteArray.size_append, ByteArray.size_append]; omega), test_d (by rw [ByteArray.size_append, ByteArray.size_append, ByteArray.size_append]; omega)]

theorem names_zone : ((List.range 23).all fun k => ((ByteArray.toList (rdEl TRow rowsL k).1) == (ByteArray.toList (⟨#[122, 111, 110, 101]⟩ : ByteArray))) == decide (k = 21)) = true := by kernel_rfl
theorem names_pol : ((List.range 23).all fun k => ((ByteArray.toList (rdEl TRow rowsL k).1) == (ByteArray.toList (⟨#[112, 111, 108, 105, 99, 121]⟩ : ByteArray))) == decide (k = 20)) = true := by kernel_rfl
theorem names_one : ((List.range 23).all fun k => ((ByteArray.toList (rdEl TRow rowsL k).1) == (ByteArray.toList (⟨#[111, 110, 101]⟩ : ByteArray))) == decide (k = 15)) = true := by kernel_rfl
theorem names_fall : ((List.range 23).all fun k => ((ByteArray.toList (rdEl TRow rowsL k).1) == (ByteArray.toList (⟨#[102, 97, 108, 108, 98, 97, 99, 107]⟩ : ByteArray))) == decide (k = 22)) = true := by kernel_rfl
theorem all_at {p : Nat → Bool} {q : Nat → Bool} (h : ((List.range 23).all fun k => p k == q k) = true) {k : Nat} (hk : k < 23) : p k = q k := eq_of_beq (List.all_eq_true.1 h k (List.mem_range.2 hk))

noncomputable def tl (m : Nat) (c : El TConfig) (X : ByteArray) (k : Int) : R :=
  textR.l1 m (numsL c) X rowsL 23 k c.1 c.2.1 c.2.2.1 c.2.2.2.1 c.2.2.2.2.1 c.2.2.2.2.2.1 c.2.2.2.2.2.2.1 c.2.2.2.2.2.2.2.1 c.2.2.2.2.2.2.2.2.1 c.2.2.2.2.2.2.2.2.2.1 c.2.2.2.2.2.2.2.2.2.2.1 c.2.2.2.2.2.2.2.2.2.2.2.1 c.2.2.2.2.2.2.2.2.2.2.2.2.1 c.2.2.2.2.2.2.2.2.2.2.2.2.2.1 c.2.2.2.2.2.2.2.2.2.2.2.2.2.2.1 c.2.2.2.2.2.2.2.2.2.2.2.2.2.2.2.1 c.2.2.2.2.2.2.2.2.2.2.2.2.2.2.2.2.1 c.2.2.2.2.2.2.2.2.2.2.2.2.2.2.2.2.2.1 c.2.2.2.2.2.2.2.2.2.2.2.2.2.2.2.2.2.2.1 c.2.2.2.2.2.2.2.2.2.2.2.2.2.2.2.2.2.2.2.1 c.2.2.2.2.2.2.2.2.2.2.2.2.2.2.2.2.2.2.2.2.1 c.2.2.2.2.2.2.2.2.2.2.2.2.2.2.2.2.2.2.2.2.2.1 c.2.2.2.2.2.2.2.2.2.2.2.2.2.2.2.2.2.2.2.2.2.2

theorem tl_end (m : Nat) (c : El TConfig) (X : ByteArray) : tl (m + 1) c X 23 = some (vs X, []) := by
  unfold tl
  rw [textR.s1, cond_df (by omega)]
  rfl

theorem tl_step (m : Nat) {c : El TConfig} (h : Good (numsL c) (cZone c)) {X : ByteArray} (hX : X.size ≤ 100000) {k : Nat} (hk : k < 23) : tl (m + 1) c X (k : Int) = tl m c (X ++ lnB (numsL c) (cZone c) k) ((k + 1 : Nat) : Int) := by
  have n1 := all_at names_zone hk
  have n2 := all_at names_pol hk
  have n3 := all_at names_one hk
  have n4 := all_at names_fall hk
  have hb := h.le k hk
  have hb2 := bound_row hk
  have hnm := (row_name hk).2.2
  have hv := (val_plain h hk).2.2
  have hp : itoa.pre (rdEl (.int .i64) (numsL c) k, ()) = true := by
    show (true && (decide (-9223372036854775808 ≤ nth (numsL c) k ∧ nth (numsL c) k ≤ 9223372036854775807) && true)) = true
    rw [dec_t (by omega)]; rfl
  have hlen : ((k : Int) < ((numsL c).length : Int)) := by show (k : Int) < 23; omega
  unfold tl
  rw [textR.s1, cond_dt (by omega), test_d (by omega), test_d (show (k : Int) < (rowsL.length : Int) by show (k : Int) < 23; omega), test_d (by omega), test_d hlen, toNat_cast, test_true hp, n1, n2, n3, n4, w64s (by omega)]
  unfold lnB lineB
  by_cases k21 : k = 21
  · subst k21
    rw [dec_t rfl, cond_true]
    have e : valB (numsL c) (cZone c) 21 = if (cZone c).size = 0 then ⟨#[45]⟩ else cZone c := rfl
    rw [e] at hv ⊢
    by_cases z : (cZone c).size = 0
    · have hz : ((cZone c).toList == (⟨#[]⟩ : ByteArray).toList) = true := by
        rw [toList_bs, toList_bs]
        have : bs (cZone c) = [] := List.eq_nil_of_length_eq_zero (by rw [bs_length]; exact z)
        rw [this]; rfl
      rw [if_pos z, hz, cond_true]
      exact add4 hnm (by decide) hX _
    · have hz : ((cZone c).toList == (⟨#[]⟩ : ByteArray).toList) = false := by
        rw [toList_bs, toList_bs]
        cases e2 : bs (cZone c) with
        | nil => rw [← bs_length, e2] at z; exact absurd rfl z
        | cons a l => rfl
      rw [if_neg z] at hv ⊢
      rw [hz, cond_false]
      exact add4 hnm (Nat.le_trans hv (by decide)) hX _
  rw [dec_f k21, cond_false]
  by_cases k20 : k = 20
  · subst k20
    rw [dec_t rfl, cond_true]
    have e1 : loR 20 = 1 := rfl
    have e2 : hiR 20 = 3 := rfl
    have e3 : IntKind.i64.wrap (nth (numsL c) 20 - 1) = nth (numsL c) 20 - 1 := w64 (by omega) (by omega)
    have e : valB (numsL c) (cZone c) 20 = rdEl .str polL (nth (numsL c) 20 - 1).toNat := rfl
    rw [e] at hv ⊢
    rw [e3]
    refine (test_d (by omega)).trans ((test_d hlen).trans ((test_d (show (0 : Int) ≤ nth (numsL c) 20 - 1 by omega)).trans ((test_d (show nth (numsL c) 20 - 1 < 3 by omega)).trans ?_)))
    exact add4 hnm (Nat.le_trans hv (by decide)) hX _
  rw [dec_f k20, cond_false]
  by_cases k15 : k = 15
  · subst k15
    rw [dec_t rfl, cond_true, cond_true]
    have e1 : loR 15 = 0 := rfl
    have e2 : hiR 15 = 1 := rfl
    have e : valB (numsL c) (cZone c) 15 = rdEl .str nyL (nth (numsL c) 15).toNat := by
      show yesW (nth (numsL c) 15 == 1) = _
      rcases (by omega : nth (numsL c) 15 = 0 ∨ nth (numsL c) 15 = 1) with e | e <;> rw [e] <;> rfl
    rw [e] at hv ⊢
    refine (test_d (by omega)).trans ((test_d hlen).trans ((test_d (show (0 : Int) ≤ nth (numsL c) 15 by omega)).trans ((test_d (show nth (numsL c) 15 < 2 by omega)).trans ?_)))
    exact add4 hnm (Nat.le_trans hv (by decide)) hX _
  rw [dec_f k15, cond_false]
  by_cases k22 : k = 22
  · subst k22
    rw [dec_t rfl, cond_true]
    have e1 : loR 22 = 0 := rfl
    have e2 : hiR 22 = 1 := rfl
    have e : valB (numsL c) (cZone c) 22 = rdEl .str nyL (nth (numsL c) 22).toNat := by
      show yesW (nth (numsL c) 22 == 1) = _
      rcases (by omega : nth (numsL c) 22 = 0 ∨ nth (numsL c) 22 = 1) with e | e <;> rw [e] <;> rfl
    rw [e] at hv ⊢
    refine (test_d (by omega)).trans ((test_d hlen).trans ((test_d (show (0 : Int) ≤ nth (numsL c) 22 by omega)).trans ((test_d (show nth (numsL c) 22 < 2 by omega)).trans ?_)))
    exact add4 hnm (Nat.le_trans hv (by decide)) hX _
  rw [dec_f k22, cond_false]
  have e : valB (numsL c) (cZone c) k = itoaB (nth (numsL c) k) := by
    unfold valB
    rw [if_neg k21, if_neg k20, if_neg (by omega)]
  rw [e] at hv ⊢
  exact add4 hnm (Nat.le_trans hv (by decide)) hX _

theorem textR_l1 {c : El TConfig} (h : Good (numsL c) (cZone c)) : ∀ (d k m : Nat), k + d = 23 → tl (m + d + 1) c (mk (pt (numsL c) (cZone c) k)) (k : Int) = some (vs (mk (pt (numsL c) (cZone c) 23)), [])
  | 0, k, m, hk => by
    have : k = 23 := by omega
    subst this
    exact tl_end m c _
  | d + 1, k, m, hk => by
    have hX : (mk (pt (numsL c) (cZone c) k)).size ≤ 100000 := by
      have := pt_len h (k := k) (by omega)
      rw [mk_size]; omega
    rw [show m + (d + 1) + 1 = (m + d + 1) + 1 by omega, tl_step _ h hX (by omega)]
    have e : mk (pt (numsL c) (cZone c) k) ++ lnB (numsL c) (cZone c) k = mk (pt (numsL c) (cZone c) (k + 1)) := by
      rw [pt_succ, ← mk_append, mk_bs]
    rw [e]
    exact textR_l1 h d (k + 1) m (by omega)

theorem text_mk {c : El TConfig} (h : mayC c = true) : textC c = mk (pt (numsL c) (cZone c) 23) := by
  rw [← mk_bs (textC c), text_bs h]; rfl

theorem textR_ok : textR.OK := textR.mk (mayCR_ok.cons' (numsR_ok.cons' (rowsR_ok.cons' (itoa_ok.cons' .nil)))) fun c hx => by
  have hp : mayCR.pre (c, ()) = true := hx
  cases h : mayC c
  · refine ⟨1, ?_⟩
    rw [textR.start, test_true hp, h]
    show some (vs (⟨#[]⟩ : ByteArray), []) = some (vs (textC c), [])
    unfold textC
    rw [h]; rfl
  · refine ⟨0 + 23 + 1 + 1, ?_⟩
    have hn : numsR.pre (c, ()) = true := hx
    rw [textR.start, test_true hp, h, Bool.not_true, cond_false, test_true hn]
    refine (textR_l1 (good_may h) 23 0 0 rfl).trans ?_
    rw [← text_mk h]
    rfl

end Go.Proofs.YtlakpbfmcnlnbaaDoor
