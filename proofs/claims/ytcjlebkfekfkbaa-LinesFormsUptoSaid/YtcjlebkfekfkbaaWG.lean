/-
  Steps of the bodies, from checkpoint to checkpoint (printed by wip/VE/mk2.py).
-/
import Derived.Test.YtcjlebkfekfkbaaWR
namespace Go.Proofs.Ytcjlebkfekfkbaa
open Go VE

/-! ### triage/triageref1.Split -/
abbrev splitR.ps : List AK := [.d false .str]
def splitR.pre : ElA splitR.ps → Bool := fun (x : ByteArray × Unit) => fits .str (x.1) && (true)
def splitR.res : ElA splitR.ps → IV := fun (x : ByteArray × Unit) => (fun s => .tup [.c (.sl TLine (splitL s).1), vi .i64 (splitL s).2.1, vi .i64 (splitL s).2.2]) x.1
def splitR.sp : ISpec := spOf splitR.ps splitR.pre splitR.res
abbrev splitR.OK : Prop := SpecOK Try.prog 17 splitR.sp
noncomputable def splitR.body : Code := bodyOf Try.f17
noncomputable def splitR.rs : List ResultVar := Try.f17.results.toList
def splitR.live : List (Nat × Live) := [(23, ⟨[(5, .arr 34 TLine), (6, .plain), (10, .arr 9 .str), (17, .sl .str), (18, .plain), (19, .plain), (61, .sl .str), (62, .plain), (63, .plain)], []⟩), (16, ⟨[(5, .arr 34 TLine), (6, .plain), (7, .plain), (17, .sl .str), (18, .plain), (19, .plain), (48, .plain), (49, .plain)], []⟩), (10, ⟨[(5, .arr 34 TLine), (6, .plain), (7, .plain), (17, .sl .str), (18, .plain), (19, .plain), (30, .plain), (31, .plain)], []⟩), (5, ⟨[(5, .arr 34 TLine), (17, .sl .str), (18, .plain), (19, .plain)], []⟩)]
noncomputable def splitR.specs  : List (Nat × (List Bool × ISpec)) := [(24, ([], partsR.sp))]
noncomputable def splitR.ospecs  : List (Nat × OS) := []
noncomputable def splitR.cfg  : Cfg := ⟨lkp tab, lkp (splitR.specs ), lkp splitR.live, ⟨lkp (splitR.ospecs ), [], none, false, []⟩⟩
noncomputable def splitR.l1  (m : Nat) (x0 : List ByteArray) (x1 : Int) (x2 : Int) (x3 : List (El TLine)) : R := run (splitR.cfg ) 86 splitR.rs m ((todoR 5 splitR.body []).getD []) ⟨ofList (.c .junk) [(5, (.c (.sref 766))), (17, (.c (.sl .str x0))), (18, (.c (.v (.int .i64 x1)))), (19, (.c (.v (.int .i64 x2))))], ofList none [(766, some (.arr 34 TLine x3 false))], ofList false [(766, true)]⟩
noncomputable def splitR.l2  (m : Nat) (x0 : Int) (x1 : ByteArray) (x2 : List ByteArray) (x3 : Int) (x4 : Int) (x5 : Int) (x6 : Int) (x7 : List (El TLine)) : R := run (splitR.cfg ) 86 splitR.rs m ((todoR 10 splitR.body []).getD []) ⟨ofList (.c .junk) [(5, (.c (.sref 766))), (6, (.c (.v (.int .i64 x0)))), (7, (.c (.v (.string x1)))), (17, (.c (.sl .str x2))), (18, (.c (.v (.int .i64 x3)))), (19, (.c (.v (.int .i64 x4)))), (30, (.c (.v (.int .i64 x5)))), (31, (.c (.v (.int .i64 x6))))], ofList none [(766, some (.arr 34 TLine x7 false))], ofList false [(766, true)]⟩
noncomputable def splitR.l3  (m : Nat) (x0 : Int) (x1 : ByteArray) (x2 : List ByteArray) (x3 : Int) (x4 : Int) (x5 : Int) (x6 : Int) (x7 : List (El TLine)) : R := run (splitR.cfg ) 86 splitR.rs m ((todoR 16 splitR.body []).getD []) ⟨ofList (.c .junk) [(5, (.c (.sref 766))), (6, (.c (.v (.int .i64 x0)))), (7, (.c (.v (.string x1)))), (17, (.c (.sl .str x2))), (18, (.c (.v (.int .i64 x3)))), (19, (.c (.v (.int .i64 x4)))), (48, (.c (.v (.int .i64 x5)))), (49, (.c (.v (.int .i64 x6))))], ofList none [(766, some (.arr 34 TLine x7 false))], ofList false [(766, true)]⟩
noncomputable def splitR.l4  (m : Nat) (x0 : Int) (x1 : List ByteArray) (x2 : Int) (x3 : Int) (x4 : List ByteArray) (x5 : Int) (x6 : Int) (x7 : List (El TLine)) (x8 : List ByteArray) : R := run (splitR.cfg ) 86 splitR.rs m ((todoR 23 splitR.body []).getD []) ⟨ofList (.c .junk) [(5, (.c (.sref 766))), (6, (.c (.v (.int .i64 x0)))), (10, (.c (.sref 1406))), (17, (.c (.sl .str x1))), (18, (.c (.v (.int .i64 x2)))), (19, (.c (.v (.int .i64 x3)))), (61, (.c (.sl .str x4))), (62, (.c (.v (.int .i64 x5)))), (63, (.c (.v (.int .i64 x6))))], ofList none [(766, some (.arr 34 TLine x7 false)), (1406, some (.arr 9 .str x8 false))], ofList false [(766, true), (1406, true)]⟩
noncomputable def splitR.go  (m : Nat) (x0 : ByteArray) : R := run (splitR.cfg ) 86 splitR.rs m [.code splitR.body] (enter (ivA splitR.ps (x0, ())))
theorem splitR.start  (m : Nat) (x0 : ByteArray) : splitR.go  (m + 1) x0 =
  cond (decide (((ByteArray.size x0) : Int) > (4000 : Int))) (
   some ((.tup [(.c (.v (.slice none 0 0))), (.c (.v (.int .i64 (0 : Int)))), (.c (.v (.int .i64 (2 : Int))))]), [])) (
   test (partsR.pre (x0, ((10 : Int), Unit.unit))) (
    splitR.l1  m (partsL x0 (10 : Int)) ((List.length (partsL x0 (10 : Int))) : Int) (0 : Int) ([] : List (El TLine)))) := by kernel_rfl
theorem splitR.s1  (m : Nat) (x0 : List ByteArray) (x1 : Int) (x2 : Int) (x3 : List (El TLine)) : splitR.l1  (m + 1) x0 x1 x2 x3 =
  cond (decide (x2 < x1)) (
   test (decide ((0 : Int) ≤ x2)) (
    test (decide (x2 < ((List.length x0) : Int))) (
     cond (decide (((ByteArray.size (rdEl .str x0 (Int.toNat x2))) : Int) > (200 : Int))) (
      some ((.tup [(.c (.v (.slice none 0 0))), (.c (.v (.int .i64 (IntKind.i64.wrap (x2 + (1 : Int)))))), (.c (.v (.int .i64 (2 : Int))))]), [])) (
      splitR.l2  m x2 (rdEl .str x0 (Int.toNat x2)) x0 x1 x2 ((ByteArray.size (rdEl .str x0 (Int.toNat x2))) : Int) (0 : Int) x3)))) (
   some ((.tup [(.c (.sl TLine x3)), (.c (.v (.int .i64 (0 : Int)))), (.c (.v (.int .i64 (0 : Int))))]), [])) := by kernel_rfl
theorem splitR.s2  (m : Nat) (x0 : Int) (x1 : ByteArray) (x2 : List ByteArray) (x3 : Int) (x4 : Int) (x5 : Int) (x6 : Int) (x7 : List (El TLine)) : splitR.l2  (m + 1) x0 x1 x2 x3 x4 x5 x6 x7 =
  cond (decide (x6 < x5)) (
   test (decide ((0 : Int) ≤ x6)) (
    test (decide (x6 < ((ByteArray.size x1) : Int))) (
     cond (decide ((byteAt x1 x6) < (32 : Int))) (
      some ((.tup [(.c (.v (.slice none 0 0))), (.c (.v (.int .i64 (IntKind.i64.wrap (x0 + (1 : Int)))))), (.c (.v (.int .i64 (2 : Int))))]), [])) (
      test (decide ((0 : Int) ≤ x6)) (
       test (decide (x6 < ((ByteArray.size x1) : Int))) (
        cond (decide ((byteAt x1 x6) > (126 : Int))) (
         some ((.tup [(.c (.v (.slice none 0 0))), (.c (.v (.int .i64 (IntKind.i64.wrap (x0 + (1 : Int)))))), (.c (.v (.int .i64 (2 : Int))))]), [])) (
         splitR.l2  m x0 x1 x2 x3 x4 x5 (IntKind.i64.wrap (x6 + (1 : Int))) x7))))))) (
   splitR.l3  m x0 x1 x2 x3 x4 ((ByteArray.size x1) : Int) (0 : Int) x7) := by kernel_rfl
theorem splitR.s3  (m : Nat) (x0 : Int) (x1 : ByteArray) (x2 : List ByteArray) (x3 : Int) (x4 : Int) (x5 : Int) (x6 : Int) (x7 : List (El TLine)) : splitR.l3  (m + 1) x0 x1 x2 x3 x4 x5 x6 x7 =
  cond (decide (x6 < x5)) (
   test (decide ((0 : Int) ≤ x6)) (
    test (decide (x6 < ((ByteArray.size x1) : Int))) (
     cond ((byteAt x1 x6) == (35 : Int)) (
      test (decide ((0 : Int) ≤ x6)) (
       test (decide (x6 ≤ ((ByteArray.size x1) : Int))) (
        test (partsR.pre ((ByteArray.extract x1 0 (Int.toNat x6)), ((32 : Int), Unit.unit))) (
         splitR.l4  m x0 x2 x3 x4 (partsL (ByteArray.extract x1 0 (Int.toNat x6)) (32 : Int)) ((List.length (partsL (ByteArray.extract x1 0 (Int.toNat x6)) (32 : Int))) : Int) (0 : Int) x7 ([] : List ByteArray))))) (
      splitR.l3  m x0 x1 x2 x3 x4 x5 (IntKind.i64.wrap (x6 + (1 : Int))) x7)))) (
   test (partsR.pre (x1, ((32 : Int), Unit.unit))) (
    splitR.l4  m x0 x2 x3 x4 (partsL x1 (32 : Int)) ((List.length (partsL x1 (32 : Int))) : Int) (0 : Int) x7 ([] : List ByteArray))) := by kernel_rfl
theorem splitR.s4  (m : Nat) (x0 : Int) (x1 : List ByteArray) (x2 : Int) (x3 : Int) (x4 : List ByteArray) (x5 : Int) (x6 : Int) (x7 : List (El TLine)) (x8 : List ByteArray) : splitR.l4  (m + 1) x0 x1 x2 x3 x4 x5 x6 x7 x8 =
  cond (decide (x6 < x5)) (
   test (decide ((0 : Int) ≤ x6)) (
    test (decide (x6 < ((List.length x4) : Int))) (
     cond (Bool.not ((ByteArray.toList (rdEl .str x4 (Int.toNat x6))) == (ByteArray.toList (⟨#[]⟩ : ByteArray)))) (
      test (decide (((List.length x8) + (List.length ((rdEl .str x4 (Int.toNat x6)) :: ([] : List ByteArray)))) ≤ (lim 16))) (
       splitR.l4  m x0 x1 x2 x3 x4 x5 (IntKind.i64.wrap (x6 + (1 : Int))) x7 (x8 ++ ((rdEl .str x4 (Int.toNat x6)) :: ([] : List ByteArray))))) (
      splitR.l4  m x0 x1 x2 x3 x4 x5 (IntKind.i64.wrap (x6 + (1 : Int))) x7 x8)))) (
   cond (decide (((List.length x8) : Int) > (0 : Int))) (
    test (decide (((List.length x7) + (List.length (((IntKind.i64.wrap (x0 + (1 : Int))), x8) :: ([] : List (El TLine))))) ≤ (lim 32))) (
     splitR.l1  m x1 x2 (IntKind.i64.wrap (x3 + (1 : Int))) (x7 ++ (((IntKind.i64.wrap (x0 + (1 : Int))), x8) :: ([] : List (El TLine)))))) (
    splitR.l1  m x1 x2 (IntKind.i64.wrap (x3 + (1 : Int))) x7)) := by kernel_rfl
theorem splitR.run_eq  (m : Nat) (x0 : ByteArray) : run (splitR.cfg ) Try.f17.ntmps Try.f17.results.toList m [.code (bodyOf Try.f17)] (enter (ivA splitR.ps (x0, ()))) = splitR.go  m x0 := by kernel_rfl
theorem splitR.ret  (hs : SpecsOK Try.prog (splitR.specs ))  (x0 : ByteArray) {m : Nat} {r : IV} (h : splitR.go  m x0 = some (r, [])) : VE.Returns Try.prog 17 (ivA splitR.ps (x0, ())) r :=
  returns_of_run (cfg := splitR.cfg ) (cfgOK_of mixed tab_ok hs .nil) rfl Try.func17 (body_some (by kernel_rfl)) (Nat.le_of_ble_eq_true (by kernel_rfl)) ((splitR.run_eq  m x0).trans h)
abbrev splitR.Law : Prop := ∀ (x0 : ByteArray), splitR.pre (x0, ()) = true → VE.Returns Try.prog 17 (ivA splitR.ps (x0, ())) (splitR.res (x0, ()))
theorem splitR.mkR (H : ∀ (x0 : ByteArray), splitR.pre (x0, ()) = true → VE.Returns Try.prog 17 (ivA splitR.ps (x0, ())) (splitR.res (x0, ()))) : SpecOK Try.prog 17 splitR.sp :=
  specOf_ret Try.func17 (by kernel_rfl) (by kernel_rfl) fun (x : ByteArray × Unit) hx => H (x.1) hx
theorem splitR.mk  (hs : SpecsOK Try.prog (splitR.specs ))  (H : ∀ (x0 : ByteArray), splitR.pre (x0, ()) = true → ∃ m, splitR.go  m x0 = some (splitR.res (x0, ()), [])) : SpecOK Try.prog 17 splitR.sp :=
  splitR.mkR fun x0 hx => (H x0 hx).elim fun _ hm => splitR.ret  hs  x0 hm

/-! ### triage/lines.Join -/
abbrev join.ps : List AK := [.d false (.sl TLine)]
def join.pre : ElA join.ps → Bool := fun (x : (List (El TLine)) × Unit) => fits (.sl TLine) (x.1) && ((fun l => decide (ByteArray.size (joinL l) ≤ 1000000)) x.1 && (true))
def join.res : ElA join.ps → IV := fun (x : (List (El TLine)) × Unit) => (fun l => .c (.v (.string (joinL l)))) x.1
def join.sp : ISpec := spOf join.ps join.pre join.res
abbrev join.OK : Prop := SpecOK Try.prog 20 join.sp
theorem join.mkR (H : ∀ (x0 : (List (El TLine))), join.pre (x0, ()) = true → VE.Returns Try.prog 20 (ivA join.ps (x0, ())) (join.res (x0, ()))) : SpecOK Try.prog 20 join.sp :=
  specOf_ret Try.func20 (by kernel_rfl) (by kernel_rfl) fun (x : (List (El TLine)) × Unit) hx => H (x.1) hx

/-! ### triage/triagelaw5.awake -/
abbrev awake.ps : List AK := []
def awake.pre : ElA awake.ps → Bool := fun (x : Unit) => true
def awake.res : ElA awake.ps → IV := fun (x : Unit) => (vb true) 
def awake.sp : ISpec := spOf awake.ps awake.pre awake.res
abbrev awake.OK : Prop := SpecOK Try.prog 10 awake.sp
noncomputable def awake.body : Code := bodyOf Try.f10
noncomputable def awake.rs : List ResultVar := Try.f10.results.toList
def awake.live : List (Nat × Live) := []
noncomputable def awake.specs  : List (Nat × (List Bool × ISpec)) := [(9, ([], split.sp)), (13, ([], number.sp)), (14, ([], nameW.sp))]
noncomputable def awake.ospecs  : List (Nat × OS) := []
noncomputable def awake.cfg  : Cfg := ⟨lkp tab, lkp (awake.specs ), lkp awake.live, ⟨lkp (awake.ospecs ), [], none, false, []⟩⟩
noncomputable def awake.go  (m : Nat)  : R := run (awake.cfg ) 51 awake.rs m [.code awake.body] (enter (ivA awake.ps ()))
theorem awake.start  (m : Nat)  : awake.go  (m + 1)  =
  some ((.c (.v (.bool (Bool.not (nameB (⟨#[45]⟩ : ByteArray)))))), []) := by kernel_rfl
theorem awake.run_eq  (m : Nat)  : run (awake.cfg ) Try.f10.ntmps Try.f10.results.toList m [.code (bodyOf Try.f10)] (enter (ivA awake.ps ())) = awake.go  m  := by kernel_rfl
theorem awake.ret  (hs : SpecsOK Try.prog (awake.specs ))   {m : Nat} {r : IV} (h : awake.go  m  = some (r, [])) : VE.Returns Try.prog 10 (ivA awake.ps ()) r :=
  returns_of_run (cfg := awake.cfg ) (cfgOK_of mixed tab_ok hs .nil) rfl Try.func10 (body_some (by kernel_rfl)) (Nat.le_of_ble_eq_true (by kernel_rfl)) ((awake.run_eq  m ).trans h)
abbrev awake.Law : Prop := ∀ (_ : Unit), awake.pre () = true → VE.Returns Try.prog 10 (ivA awake.ps ()) (awake.res ())
theorem awake.mkR (H : ∀ (_ : Unit), awake.pre () = true → VE.Returns Try.prog 10 (ivA awake.ps ()) (awake.res ())) : SpecOK Try.prog 10 awake.sp :=
  specOf_ret Try.func10 (by kernel_rfl) (by kernel_rfl) fun (x : Unit) hx => H () hx
theorem awake.mk  (hs : SpecsOK Try.prog (awake.specs ))  (H : ∀ (_ : Unit), awake.pre () = true → ∃ m, awake.go  m  = some (awake.res (), [])) : SpecOK Try.prog 10 awake.sp :=
  awake.mkR fun _ hx => (H () hx).elim fun _ hm => awake.ret  hs   hm

/-! ### triage/triagelaw5.LinesForms -/
abbrev lForms.ps : List AK := [.d false .str, .d false (.sl TLine)]
def lForms.pre : ElA lForms.ps → Bool := fun (x : ByteArray × (List (El TLine)) × Unit) => fits .str (x.1) && (fits (.sl TLine) (x.2.1) && (true))
def lForms.res : ElA lForms.ps → IV := fun (x : ByteArray × (List (El TLine)) × Unit) => (fun _ _ => vb true) x.1 x.2.1
def lForms.sp : ISpec := spOf lForms.ps lForms.pre lForms.res
abbrev lForms.OK : Prop := SpecOK Try.prog 7 lForms.sp
noncomputable def lForms.body : Code := bodyOf Try.f7
noncomputable def lForms.rs : List ResultVar := Try.f7.results.toList
def lForms.live : List (Nat × Live) := []
noncomputable def lForms.specs  : List (Nat × (List Bool × ISpec)) := [(10, ([], awake.sp)), (9, ([], split.sp)), (17, ([], splitR.sp)), (13, ([], number.sp)), (18, ([], numberR.sp)), (14, ([], nameW.sp)), (15, ([], wordR.sp)), (20, ([], join.sp)), (11, ([], joinR.sp)), (19, ([], sameR.sp)), (16, ([], light.sp))]
noncomputable def lForms.ospecs  : List (Nat × OS) := []
noncomputable def lForms.cfg  : Cfg := ⟨lkp tab, lkp (lForms.specs ), lkp lForms.live, ⟨lkp (lForms.ospecs ), [], none, false, []⟩⟩
noncomputable def lForms.go  (m : Nat) (x0 : ByteArray) (x1 : (List (El TLine))) : R := run (lForms.cfg ) 86 lForms.rs m [.code lForms.body] (enter (ivA lForms.ps (x0, x1, ())))
theorem lForms.start  (m : Nat) (x0 : ByteArray) (x1 : (List (El TLine))) : lForms.go  (m + 1) x0 x1 =
  cond (decide (((ByteArray.size x0) : Int) > (6000 : Int))) (
   some ((.c (.v (.bool true))), [])) (
   test (light.pre (x1, Unit.unit)) (
    cond (decide ((lightI x1) > (0 : Int))) (
     some ((.c (.v (.bool true))), [])) (
     test (split.pre (x0, Unit.unit)) (
      test (splitR.pre (x0, Unit.unit)) (
       test (number.pre (x0, Unit.unit)) (
        test (numberR.pre (x0, Unit.unit)) (
         test (sameR.pre (((splitL x0)).1, (((splitL x0)).1, Unit.unit))) (
          cond (sameL ((splitL x0)).1 ((splitL x0)).1) (
           cond ((((splitL x0)).2).1 == (((splitL x0)).2).1) (
            cond ((((splitL x0)).2).2 == (((splitL x0)).2).2) (
             cond (((numB x0)).1 == ((numB x0)).1) (
              cond (((numB x0)).2 == ((numB x0)).2) (
               test (nameW.pre (x0, Unit.unit)) (
                test (wordR.pre (x0, Unit.unit)) (
                 cond ((nameB x0) == (nameB x0)) (
                  test (join.pre (x1, Unit.unit)) (
                   test (joinR.pre (x1, Unit.unit)) (
                    cond ((ByteArray.toList (joinL x1)) == (ByteArray.toList (joinL x1))) (
                     some ((.c (.v (.bool true))), [])) (
                     some ((.c (.v (.bool false))), []))))) (
                  some ((.c (.v (.bool false))), []))))) (
               some ((.c (.v (.bool false))), []))) (
              some ((.c (.v (.bool false))), []))) (
             some ((.c (.v (.bool false))), []))) (
            some ((.c (.v (.bool false))), []))) (
           some ((.c (.v (.bool false))), [])))))))))) := by kernel_rfl
theorem lForms.run_eq  (m : Nat) (x0 : ByteArray) (x1 : (List (El TLine))) : run (lForms.cfg ) Try.f7.ntmps Try.f7.results.toList m [.code (bodyOf Try.f7)] (enter (ivA lForms.ps (x0, x1, ()))) = lForms.go  m x0 x1 := by kernel_rfl
theorem lForms.ret  (hs : SpecsOK Try.prog (lForms.specs ))  (x0 : ByteArray) (x1 : (List (El TLine))) {m : Nat} {r : IV} (h : lForms.go  m x0 x1 = some (r, [])) : VE.Returns Try.prog 7 (ivA lForms.ps (x0, x1, ())) r :=
  returns_of_run (cfg := lForms.cfg ) (cfgOK_of mixed tab_ok hs .nil) rfl Try.func7 (body_some (by kernel_rfl)) (Nat.le_of_ble_eq_true (by kernel_rfl)) ((lForms.run_eq  m x0 x1).trans h)
abbrev lForms.Law : Prop := ∀ (x0 : ByteArray) (x1 : (List (El TLine))), lForms.pre (x0, x1, ()) = true → VE.Returns Try.prog 7 (ivA lForms.ps (x0, x1, ())) (lForms.res (x0, x1, ()))
theorem lForms.mkR (H : ∀ (x0 : ByteArray) (x1 : (List (El TLine))), lForms.pre (x0, x1, ()) = true → VE.Returns Try.prog 7 (ivA lForms.ps (x0, x1, ())) (lForms.res (x0, x1, ()))) : SpecOK Try.prog 7 lForms.sp :=
  specOf_ret Try.func7 (by kernel_rfl) (by kernel_rfl) fun (x : ByteArray × (List (El TLine)) × Unit) hx => H (x.1) (x.2.1) hx
theorem lForms.mk  (hs : SpecsOK Try.prog (lForms.specs ))  (H : ∀ (x0 : ByteArray) (x1 : (List (El TLine))), lForms.pre (x0, x1, ()) = true → ∃ m, lForms.go  m x0 x1 = some (lForms.res (x0, x1, ()), [])) : SpecOK Try.prog 7 lForms.sp :=
  lForms.mkR fun x0 x1 hx => (H x0 x1 hx).elim fun _ hm => lForms.ret  hs  x0 x1 hm

/-! ### triage/triagelaw5.LinesBack -/
abbrev lBack.ps : List AK := [.d false (.sl (.sl .str)), .d false .str]
def lBack.pre : ElA lBack.ps → Bool := fun (x : (List (List ByteArray)) × ByteArray × Unit) => fits (.sl (.sl .str)) (x.1) && (fits .str (x.2.1) && (true))
def lBack.res : ElA lBack.ps → IV := fun (x : (List (List ByteArray)) × ByteArray × Unit) => (fun _ _ => vb true) x.1 x.2.1
def lBack.sp : ISpec := spOf lBack.ps lBack.pre lBack.res
abbrev lBack.OK : Prop := SpecOK Try.prog 8 lBack.sp
noncomputable def lBack.body : Code := bodyOf Try.f8
noncomputable def lBack.rs : List ResultVar := Try.f8.results.toList
def lBack.live : List (Nat × Live) := [(22, ⟨[(1, .plain), (5, .arr 34 TLine), (10, .plain), (11, .sl TLine), (13, .plain), (75, .plain), (76, .plain)], []⟩), (10, ⟨[(1, .plain), (5, .arr 34 TLine), (6, .plain), (7, .sl .str), (27, .sl (.sl .str)), (28, .plain), (29, .plain), (43, .sl .str), (44, .plain), (45, .plain)], []⟩), (5, ⟨[(1, .plain), (5, .arr 34 TLine), (27, .sl (.sl .str)), (28, .plain), (29, .plain)], []⟩)]
noncomputable def lBack.specs  : List (Nat × (List Bool × ISpec)) := [(10, ([], awake.sp)), (9, ([], split.sp)), (15, ([], wordR.sp)), (20, ([], join.sp)), (19, ([], sameR.sp))]
noncomputable def lBack.ospecs  : List (Nat × OS) := []
noncomputable def lBack.cfg  : Cfg := ⟨lkp tab, lkp (lBack.specs ), lkp lBack.live, ⟨lkp (lBack.ospecs ), [], none, false, []⟩⟩
noncomputable def lBack.l1  (m : Nat) (x0 : ByteArray) (x1 : List (List ByteArray)) (x2 : Int) (x3 : Int) (x4 : List (El TLine)) : R := run (lBack.cfg ) 128 lBack.rs m ((todoR 5 lBack.body []).getD []) ⟨ofList (.c .junk) [(1, (.c (.v (.string x0)))), (5, (.c (.sref 766))), (27, (.c (.sl (.sl .str) x1))), (28, (.c (.v (.int .i64 x2)))), (29, (.c (.v (.int .i64 x3))))], ofList none [(766, some (.arr 34 TLine x4 false))], ofList false [(766, true)]⟩
noncomputable def lBack.l2  (m : Nat) (x0 : ByteArray) (x1 : Int) (x2 : List ByteArray) (x3 : List (List ByteArray)) (x4 : Int) (x5 : Int) (x6 : List ByteArray) (x7 : Int) (x8 : Int) (x9 : List (El TLine)) : R := run (lBack.cfg ) 128 lBack.rs m ((todoR 10 lBack.body []).getD []) ⟨ofList (.c .junk) [(1, (.c (.v (.string x0)))), (5, (.c (.sref 766))), (6, (.c (.v (.int .i64 x1)))), (7, (.c (.sl .str x2))), (27, (.c (.sl (.sl .str) x3))), (28, (.c (.v (.int .i64 x4)))), (29, (.c (.v (.int .i64 x5)))), (43, (.c (.sl .str x6))), (44, (.c (.v (.int .i64 x7)))), (45, (.c (.v (.int .i64 x8))))], ofList none [(766, some (.arr 34 TLine x9 false))], ofList false [(766, true)]⟩
noncomputable def lBack.l3  (m : Nat) (x0 : ByteArray) (x1 : ByteArray) (x2 : List (El TLine)) (x3 : Int) (x4 : Int) (x5 : Int) (x6 : List (El TLine)) : R := run (lBack.cfg ) 128 lBack.rs m ((todoR 22 lBack.body []).getD []) ⟨ofList (.c .junk) [(1, (.c (.v (.string x0)))), (5, (.c (.sref 766))), (10, (.c (.v (.string x1)))), (11, (.c (.sl TLine x2))), (13, (.c (.v (.int .i64 x3)))), (75, (.c (.v (.int .i64 x4)))), (76, (.c (.v (.int .i64 x5))))], ofList none [(766, some (.arr 34 TLine x6 false))], ofList false [(766, true)]⟩
noncomputable def lBack.go  (m : Nat) (x0 : (List (List ByteArray))) (x1 : ByteArray) : R := run (lBack.cfg ) 128 lBack.rs m [.code lBack.body] (enter (ivA lBack.ps (x0, x1, ())))
theorem lBack.start  (m : Nat) (x0 : (List (List ByteArray))) (x1 : ByteArray) : lBack.go  (m + 1) x0 x1 =
  cond (decide (((List.length x0) : Int) > (40 : Int))) (
   some ((.c (.v (.bool true))), [])) (
   cond (decide (((ByteArray.size x1) : Int) > (20 : Int))) (
    some ((.c (.v (.bool true))), [])) (
    lBack.l1  m x1 x0 ((List.length x0) : Int) (0 : Int) ([] : List (El TLine)))) := by kernel_rfl
theorem lBack.s1  (m : Nat) (x0 : ByteArray) (x1 : List (List ByteArray)) (x2 : Int) (x3 : Int) (x4 : List (El TLine)) : lBack.l1  (m + 1) x0 x1 x2 x3 x4 =
  cond (decide (x3 < x2)) (
   test (decide ((0 : Int) ≤ x3)) (
    test (decide (x3 < ((List.length x1) : Int))) (
     cond (decide (((List.length (rdEl (.sl .str) x1 (Int.toNat x3))) : Int) < (1 : Int))) (
      some ((.c (.v (.bool true))), [])) (
      cond (decide (((List.length (rdEl (.sl .str) x1 (Int.toNat x3))) : Int) > (8 : Int))) (
       some ((.c (.v (.bool true))), [])) (
       lBack.l2  m x0 x3 (rdEl (.sl .str) x1 (Int.toNat x3)) x1 x2 x3 (rdEl (.sl .str) x1 (Int.toNat x3)) ((List.length (rdEl (.sl .str) x1 (Int.toNat x3))) : Int) (0 : Int) x4))))) (
   test (join.pre (x4, Unit.unit)) (
    cond (decide (((ByteArray.size (joinL x4)) : Int) > (3000 : Int))) (
     some ((.c (.v (.bool true))), [])) (
     test (split.pre ((joinL x4), Unit.unit)) (
      lBack.l3  m x0 (joinL x4) ((splitL (joinL x4))).1 (((splitL (joinL x4))).2).2 ((ByteArray.size x0) : Int) (0 : Int) x4)))) := by kernel_rfl
theorem lBack.s2  (m : Nat) (x0 : ByteArray) (x1 : Int) (x2 : List ByteArray) (x3 : List (List ByteArray)) (x4 : Int) (x5 : Int) (x6 : List ByteArray) (x7 : Int) (x8 : Int) (x9 : List (El TLine)) : lBack.l2  (m + 1) x0 x1 x2 x3 x4 x5 x6 x7 x8 x9 =
  cond (decide (x8 < x7)) (
   test (decide ((0 : Int) ≤ x8)) (
    test (decide (x8 < ((List.length x6) : Int))) (
     test (wordR.pre ((rdEl .str x6 (Int.toNat x8)), Unit.unit)) (
      cond (Bool.not (nameB (rdEl .str x6 (Int.toNat x8)))) (
       some ((.c (.v (.bool true))), [])) (
       lBack.l2  m x0 x1 x2 x3 x4 x5 x6 x7 (IntKind.i64.wrap (x8 + (1 : Int))) x9))))) (
   test (decide (((List.length x9) + (List.length (((IntKind.i64.wrap (x1 + (1 : Int))), x2) :: ([] : List (El TLine))))) ≤ (lim 32))) (
    lBack.l1  m x0 x3 x4 (IntKind.i64.wrap (x5 + (1 : Int))) (x9 ++ (((IntKind.i64.wrap (x1 + (1 : Int))), x2) :: ([] : List (El TLine)))))) := by kernel_rfl
theorem lBack.s3  (m : Nat) (x0 : ByteArray) (x1 : ByteArray) (x2 : List (El TLine)) (x3 : Int) (x4 : Int) (x5 : Int) (x6 : List (El TLine)) : lBack.l3  (m + 1) x0 x1 x2 x3 x4 x5 x6 =
  cond (decide (x5 < x4)) (
   test (decide ((0 : Int) ≤ x5)) (
    test (decide (x5 < ((ByteArray.size x0) : Int))) (
     cond (decide ((byteAt x0 x5) < (32 : Int))) (
      cond (x3 == (0 : Int)) (
       test (sameR.pre (x2, (x6, Unit.unit))) (
        cond (sameL x2 x6) (
         some ((.c (.v (.bool true))), [])) (
         some ((.c (.v (.bool false))), [])))) (
       some ((.c (.v (.bool false))), []))) (
      test (decide ((0 : Int) ≤ x5)) (
       test (decide (x5 < ((ByteArray.size x0) : Int))) (
        cond (decide ((byteAt x0 x5) > (126 : Int))) (
         cond (x3 == (0 : Int)) (
          test (sameR.pre (x2, (x6, Unit.unit))) (
           cond (sameL x2 x6) (
            some ((.c (.v (.bool true))), [])) (
            some ((.c (.v (.bool false))), [])))) (
          some ((.c (.v (.bool false))), []))) (
         lBack.l3  m x0 x1 x2 x3 x4 (IntKind.i64.wrap (x5 + (1 : Int))) x6))))))) (
   test (decide (((ByteArray.size x1) + (ByteArray.size (⟨#[35]⟩ : ByteArray))) ≤ 9223372036854775807)) (
    test (decide (((ByteArray.size (x1 ++ (⟨#[35]⟩ : ByteArray))) + (ByteArray.size x0)) ≤ 9223372036854775807)) (
     test (split.pre (((x1 ++ (⟨#[35]⟩ : ByteArray)) ++ x0), Unit.unit)) (
      cond (x3 == (0 : Int)) (
       cond ((((splitL ((x1 ++ (⟨#[35]⟩ : ByteArray)) ++ x0))).2).2 == (0 : Int)) (
        test (sameR.pre (x2, (x6, Unit.unit))) (
         cond (sameL x2 x6) (
          test (sameR.pre (((splitL ((x1 ++ (⟨#[35]⟩ : ByteArray)) ++ x0))).1, (x6, Unit.unit))) (
           cond (sameL ((splitL ((x1 ++ (⟨#[35]⟩ : ByteArray)) ++ x0))).1 x6) (
            some ((.c (.v (.bool true))), [])) (
            some ((.c (.v (.bool false))), [])))) (
          some ((.c (.v (.bool false))), [])))) (
        some ((.c (.v (.bool false))), []))) (
       some ((.c (.v (.bool false))), [])))))) := by kernel_rfl
theorem lBack.run_eq  (m : Nat) (x0 : (List (List ByteArray))) (x1 : ByteArray) : run (lBack.cfg ) Try.f8.ntmps Try.f8.results.toList m [.code (bodyOf Try.f8)] (enter (ivA lBack.ps (x0, x1, ()))) = lBack.go  m x0 x1 := by kernel_rfl
theorem lBack.ret  (hs : SpecsOK Try.prog (lBack.specs ))  (x0 : (List (List ByteArray))) (x1 : ByteArray) {m : Nat} {r : IV} (h : lBack.go  m x0 x1 = some (r, [])) : VE.Returns Try.prog 8 (ivA lBack.ps (x0, x1, ())) r :=
  returns_of_run (cfg := lBack.cfg ) (cfgOK_of mixed tab_ok hs .nil) rfl Try.func8 (body_some (by kernel_rfl)) (Nat.le_of_ble_eq_true (by kernel_rfl)) ((lBack.run_eq  m x0 x1).trans h)
abbrev lBack.Law : Prop := ∀ (x0 : (List (List ByteArray))) (x1 : ByteArray), lBack.pre (x0, x1, ()) = true → VE.Returns Try.prog 8 (ivA lBack.ps (x0, x1, ())) (lBack.res (x0, x1, ()))
theorem lBack.mkR (H : ∀ (x0 : (List (List ByteArray))) (x1 : ByteArray), lBack.pre (x0, x1, ()) = true → VE.Returns Try.prog 8 (ivA lBack.ps (x0, x1, ())) (lBack.res (x0, x1, ()))) : SpecOK Try.prog 8 lBack.sp :=
  specOf_ret Try.func8 (by kernel_rfl) (by kernel_rfl) fun (x : (List (List ByteArray)) × ByteArray × Unit) hx => H (x.1) (x.2.1) hx
theorem lBack.mk  (hs : SpecsOK Try.prog (lBack.specs ))  (H : ∀ (x0 : (List (List ByteArray))) (x1 : ByteArray), lBack.pre (x0, x1, ()) = true → ∃ m, lBack.go  m x0 x1 = some (lBack.res (x0, x1, ()), [])) : SpecOK Try.prog 8 lBack.sp :=
  lBack.mkR fun x0 x1 hx => (H x0 x1 hx).elim fun _ hm => lBack.ret  hs  x0 x1 hm

/-! ### triage/triagelaw5.LinesWrong -/
abbrev lWrong.ps : List AK := [.d false (.int .i64), .d false (.int .u8), .d false .bool]
def lWrong.pre : ElA lWrong.ps → Bool := fun (x : Int × Int × Bool × Unit) => fits (.int .i64) (x.1) && (fits (.int .u8) (x.2.1) && (fits .bool (x.2.2.1) && ((fun _ c _ => decide (0 ≤ c ∧ c ≤ 255)) x.1 x.2.1 x.2.2.1 && (true))))
def lWrong.res : ElA lWrong.ps → IV := fun (x : Int × Int × Bool × Unit) => (fun _ _ _ => vb true) x.1 x.2.1 x.2.2.1
def lWrong.sp : ISpec := spOf lWrong.ps lWrong.pre lWrong.res
abbrev lWrong.OK : Prop := SpecOK Try.prog 3 lWrong.sp
noncomputable def lWrong.body : Code := bodyOf Try.f3
noncomputable def lWrong.rs : List ResultVar := Try.f3.results.toList
def lWrong.live : List (Nat × Live) := [(11, ⟨[(0, .plain), (1, .plain), (7, .plain), (8, .plain), (38, .plain)], []⟩), (4, ⟨[(0, .plain), (1, .plain), (2, .plain), (7, .plain), (17, .plain), (18, .plain)], []⟩)]
noncomputable def lWrong.specs  : List (Nat × (List Bool × ISpec)) := [(10, ([], awake.sp)), (9, ([], split.sp))]
noncomputable def lWrong.ospecs  : List (Nat × OS) := []
noncomputable def lWrong.cfg  : Cfg := ⟨lkp tab, lkp (lWrong.specs ), lkp lWrong.live, ⟨lkp (lWrong.ospecs ), [], none, false, []⟩⟩
noncomputable def lWrong.l1  (m : Nat) (x0 : Int) (x1 : Int) (x2 : Bool) (x3 : ByteArray) (x4 : Int) (x5 : Int) : R := run (lWrong.cfg ) 89 lWrong.rs m ((todoR 4 lWrong.body []).getD []) ⟨ofList (.c .junk) [(0, (.c (.v (.int .i64 x0)))), (1, (.c (.v (.int .u8 x1)))), (2, (.c (.v (.bool x2)))), (7, (.c (.v (.string x3)))), (17, (.c (.v (.int .i64 x4)))), (18, (.c (.v (.int .i64 x5))))], ofList none [], ofList false []⟩
noncomputable def lWrong.l2  (m : Nat) (x0 : Int) (x1 : Int) (x2 : ByteArray) (x3 : ByteArray) (x4 : Int) : R := run (lWrong.cfg ) 89 lWrong.rs m ((todoR 11 lWrong.body []).getD []) ⟨ofList (.c .junk) [(0, (.c (.v (.int .i64 x0)))), (1, (.c (.v (.int .u8 x1)))), (7, (.c (.v (.string x2)))), (8, (.c (.v (.string x3)))), (38, (.c (.v (.int .i64 x4))))], ofList none [], ofList false []⟩
noncomputable def lWrong.go  (m : Nat) (x0 : Int) (x1 : Int) (x2 : Bool) : R := run (lWrong.cfg ) 89 lWrong.rs m [.code lWrong.body] (enter (ivA lWrong.ps (x0, x1, x2, ())))
theorem lWrong.start  (m : Nat) (x0 : Int) (x1 : Int) (x2 : Bool) : lWrong.go  (m + 1) x0 x1 x2 =
  lWrong.l1  m (IntKind.i64.wrap (Int.tmod (IntKind.u64.wrap x0) (20 : Int))) x1 x2 (⟨#[]⟩ : ByteArray) (IntKind.i64.wrap (Int.tmod (IntKind.u64.wrap x0) (20 : Int))) (0 : Int) := by kernel_rfl
theorem lWrong.s1  (m : Nat) (x0 : Int) (x1 : Int) (x2 : Bool) (x3 : ByteArray) (x4 : Int) (x5 : Int) : lWrong.l1  (m + 1) x0 x1 x2 x3 x4 x5 =
  cond (decide (x5 < x4)) (
   test (decide (((ByteArray.size x3) + (ByteArray.size (⟨#[97, 32, 98, 10]⟩ : ByteArray))) ≤ 9223372036854775807)) (
    lWrong.l1  m x0 x1 x2 (x3 ++ (⟨#[97, 32, 98, 10]⟩ : ByteArray)) x4 (IntKind.i64.wrap (x5 + (1 : Int))))) (
   cond (decide (x1 ≥ (32 : Int))) (
    cond (decide (x1 ≤ (126 : Int))) (
     cond x2 (
      lWrong.l2  m x0 x1 x3 ((⟨#[120]⟩ : ByteArray) ++ (bytesStr (x1 :: ([] : List Int)))) (0 : Int)) (
      test (decide (((ByteArray.size x3) + (ByteArray.size ((⟨#[120]⟩ : ByteArray) ++ (bytesStr (x1 :: ([] : List Int)))))) ≤ 9223372036854775807)) (
       test (decide (((ByteArray.size (x3 ++ ((⟨#[120]⟩ : ByteArray) ++ (bytesStr (x1 :: ([] : List Int)))))) + (ByteArray.size (⟨#[10, 122]⟩ : ByteArray))) ≤ 9223372036854775807)) (
        test (split.pre (((x3 ++ ((⟨#[120]⟩ : ByteArray) ++ (bytesStr (x1 :: ([] : List Int))))) ++ (⟨#[10, 122]⟩ : ByteArray)), Unit.unit)) (
         cond ((((splitL ((x3 ++ ((⟨#[120]⟩ : ByteArray) ++ (bytesStr (x1 :: ([] : List Int))))) ++ (⟨#[10, 122]⟩ : ByteArray)))).2).2 == (0 : Int)) (
          cond ((((splitL ((x3 ++ ((⟨#[120]⟩ : ByteArray) ++ (bytesStr (x1 :: ([] : List Int))))) ++ (⟨#[10, 122]⟩ : ByteArray)))).2).1 == (0 : Int)) (
           cond (decide (((List.length ((splitL ((x3 ++ ((⟨#[120]⟩ : ByteArray) ++ (bytesStr (x1 :: ([] : List Int))))) ++ (⟨#[10, 122]⟩ : ByteArray)))).1) : Int) ≥ (IntKind.i64.wrap (x0 + (1 : Int))))) (
            some ((.c (.v (.bool true))), [])) (
            some ((.c (.v (.bool false))), []))) (
           some ((.c (.v (.bool false))), []))) (
          some ((.c (.v (.bool false))), []))))))) (
     cond x2 (
      lWrong.l2  m x0 x1 x3 ((⟨#[120]⟩ : ByteArray) ++ (bytesStr (x1 :: ([] : List Int)))) (0 : Int)) (
      test (decide (((ByteArray.size x3) + (ByteArray.size ((⟨#[120]⟩ : ByteArray) ++ (bytesStr (x1 :: ([] : List Int)))))) ≤ 9223372036854775807)) (
       test (decide (((ByteArray.size (x3 ++ ((⟨#[120]⟩ : ByteArray) ++ (bytesStr (x1 :: ([] : List Int)))))) + (ByteArray.size (⟨#[10, 122]⟩ : ByteArray))) ≤ 9223372036854775807)) (
        test (split.pre (((x3 ++ ((⟨#[120]⟩ : ByteArray) ++ (bytesStr (x1 :: ([] : List Int))))) ++ (⟨#[10, 122]⟩ : ByteArray)), Unit.unit)) (
         cond (x1 == (10 : Int)) (
          cond ((((splitL ((x3 ++ ((⟨#[120]⟩ : ByteArray) ++ (bytesStr (x1 :: ([] : List Int))))) ++ (⟨#[10, 122]⟩ : ByteArray)))).2).2 == (0 : Int)) (
           cond ((((splitL ((x3 ++ ((⟨#[120]⟩ : ByteArray) ++ (bytesStr (x1 :: ([] : List Int))))) ++ (⟨#[10, 122]⟩ : ByteArray)))).2).1 == (0 : Int)) (
            cond (decide (((List.length ((splitL ((x3 ++ ((⟨#[120]⟩ : ByteArray) ++ (bytesStr (x1 :: ([] : List Int))))) ++ (⟨#[10, 122]⟩ : ByteArray)))).1) : Int) ≥ (IntKind.i64.wrap (x0 + (1 : Int))))) (
             some ((.c (.v (.bool true))), [])) (
             some ((.c (.v (.bool false))), []))) (
            some ((.c (.v (.bool false))), []))) (
           some ((.c (.v (.bool false))), []))) (
          cond ((((splitL ((x3 ++ ((⟨#[120]⟩ : ByteArray) ++ (bytesStr (x1 :: ([] : List Int))))) ++ (⟨#[10, 122]⟩ : ByteArray)))).2).2 == (2 : Int)) (
           cond ((((splitL ((x3 ++ ((⟨#[120]⟩ : ByteArray) ++ (bytesStr (x1 :: ([] : List Int))))) ++ (⟨#[10, 122]⟩ : ByteArray)))).2).1 == (IntKind.i64.wrap (x0 + (1 : Int)))) (
            cond (((List.length ((splitL ((x3 ++ ((⟨#[120]⟩ : ByteArray) ++ (bytesStr (x1 :: ([] : List Int))))) ++ (⟨#[10, 122]⟩ : ByteArray)))).1) : Int) == (0 : Int)) (
             some ((.c (.v (.bool true))), [])) (
             some ((.c (.v (.bool false))), []))) (
            some ((.c (.v (.bool false))), []))) (
           some ((.c (.v (.bool false))), []))))))))) (
    cond x2 (
     lWrong.l2  m x0 x1 x3 ((⟨#[120]⟩ : ByteArray) ++ (bytesStr (x1 :: ([] : List Int)))) (0 : Int)) (
     test (decide (((ByteArray.size x3) + (ByteArray.size ((⟨#[120]⟩ : ByteArray) ++ (bytesStr (x1 :: ([] : List Int)))))) ≤ 9223372036854775807)) (
      test (decide (((ByteArray.size (x3 ++ ((⟨#[120]⟩ : ByteArray) ++ (bytesStr (x1 :: ([] : List Int)))))) + (ByteArray.size (⟨#[10, 122]⟩ : ByteArray))) ≤ 9223372036854775807)) (
       test (split.pre (((x3 ++ ((⟨#[120]⟩ : ByteArray) ++ (bytesStr (x1 :: ([] : List Int))))) ++ (⟨#[10, 122]⟩ : ByteArray)), Unit.unit)) (
        cond (x1 == (10 : Int)) (
         cond ((((splitL ((x3 ++ ((⟨#[120]⟩ : ByteArray) ++ (bytesStr (x1 :: ([] : List Int))))) ++ (⟨#[10, 122]⟩ : ByteArray)))).2).2 == (0 : Int)) (
          cond ((((splitL ((x3 ++ ((⟨#[120]⟩ : ByteArray) ++ (bytesStr (x1 :: ([] : List Int))))) ++ (⟨#[10, 122]⟩ : ByteArray)))).2).1 == (0 : Int)) (
           cond (decide (((List.length ((splitL ((x3 ++ ((⟨#[120]⟩ : ByteArray) ++ (bytesStr (x1 :: ([] : List Int))))) ++ (⟨#[10, 122]⟩ : ByteArray)))).1) : Int) ≥ (IntKind.i64.wrap (x0 + (1 : Int))))) (
            some ((.c (.v (.bool true))), [])) (
            some ((.c (.v (.bool false))), []))) (
           some ((.c (.v (.bool false))), []))) (
          some ((.c (.v (.bool false))), []))) (
         cond ((((splitL ((x3 ++ ((⟨#[120]⟩ : ByteArray) ++ (bytesStr (x1 :: ([] : List Int))))) ++ (⟨#[10, 122]⟩ : ByteArray)))).2).2 == (2 : Int)) (
          cond ((((splitL ((x3 ++ ((⟨#[120]⟩ : ByteArray) ++ (bytesStr (x1 :: ([] : List Int))))) ++ (⟨#[10, 122]⟩ : ByteArray)))).2).1 == (IntKind.i64.wrap (x0 + (1 : Int)))) (
           cond (((List.length ((splitL ((x3 ++ ((⟨#[120]⟩ : ByteArray) ++ (bytesStr (x1 :: ([] : List Int))))) ++ (⟨#[10, 122]⟩ : ByteArray)))).1) : Int) == (0 : Int)) (
            some ((.c (.v (.bool true))), [])) (
            some ((.c (.v (.bool false))), []))) (
           some ((.c (.v (.bool false))), []))) (
          some ((.c (.v (.bool false))), []))))))))) := by kernel_rfl
theorem lWrong.s2  (m : Nat) (x0 : Int) (x1 : Int) (x2 : ByteArray) (x3 : ByteArray) (x4 : Int) : lWrong.l2  (m + 1) x0 x1 x2 x3 x4 =
  cond (decide (x4 < (220 : Int))) (
   test (decide (((ByteArray.size x3) + (ByteArray.size (⟨#[121]⟩ : ByteArray))) ≤ 9223372036854775807)) (
    lWrong.l2  m x0 x1 x2 (x3 ++ (⟨#[121]⟩ : ByteArray)) (IntKind.i64.wrap (x4 + (1 : Int))))) (
   cond (x1 == (10 : Int)) (
    test (decide (((ByteArray.size x2) + (ByteArray.size x3)) ≤ 9223372036854775807)) (
     test (decide (((ByteArray.size (x2 ++ x3)) + (ByteArray.size (⟨#[10, 122]⟩ : ByteArray))) ≤ 9223372036854775807)) (
      test (split.pre (((x2 ++ x3) ++ (⟨#[10, 122]⟩ : ByteArray)), Unit.unit)) (
       cond ((((splitL ((x2 ++ x3) ++ (⟨#[10, 122]⟩ : ByteArray)))).2).2 == (2 : Int)) (
        cond ((((splitL ((x2 ++ x3) ++ (⟨#[10, 122]⟩ : ByteArray)))).2).1 == (IntKind.i64.wrap ((IntKind.i64.wrap (x0 + (1 : Int))) + (1 : Int)))) (
         cond (((List.length ((splitL ((x2 ++ x3) ++ (⟨#[10, 122]⟩ : ByteArray)))).1) : Int) == (0 : Int)) (
          some ((.c (.v (.bool true))), [])) (
          some ((.c (.v (.bool false))), []))) (
         some ((.c (.v (.bool false))), []))) (
        some ((.c (.v (.bool false))), [])))))) (
    test (decide (((ByteArray.size x2) + (ByteArray.size x3)) ≤ 9223372036854775807)) (
     test (decide (((ByteArray.size (x2 ++ x3)) + (ByteArray.size (⟨#[10, 122]⟩ : ByteArray))) ≤ 9223372036854775807)) (
      test (split.pre (((x2 ++ x3) ++ (⟨#[10, 122]⟩ : ByteArray)), Unit.unit)) (
       cond ((((splitL ((x2 ++ x3) ++ (⟨#[10, 122]⟩ : ByteArray)))).2).2 == (2 : Int)) (
        cond ((((splitL ((x2 ++ x3) ++ (⟨#[10, 122]⟩ : ByteArray)))).2).1 == (IntKind.i64.wrap (x0 + (1 : Int)))) (
         cond (((List.length ((splitL ((x2 ++ x3) ++ (⟨#[10, 122]⟩ : ByteArray)))).1) : Int) == (0 : Int)) (
          some ((.c (.v (.bool true))), [])) (
          some ((.c (.v (.bool false))), []))) (
         some ((.c (.v (.bool false))), []))) (
        some ((.c (.v (.bool false))), []))))))) := by kernel_rfl
theorem lWrong.run_eq  (m : Nat) (x0 : Int) (x1 : Int) (x2 : Bool) : run (lWrong.cfg ) Try.f3.ntmps Try.f3.results.toList m [.code (bodyOf Try.f3)] (enter (ivA lWrong.ps (x0, x1, x2, ()))) = lWrong.go  m x0 x1 x2 := by kernel_rfl
theorem lWrong.ret  (hs : SpecsOK Try.prog (lWrong.specs ))  (x0 : Int) (x1 : Int) (x2 : Bool) {m : Nat} {r : IV} (h : lWrong.go  m x0 x1 x2 = some (r, [])) : VE.Returns Try.prog 3 (ivA lWrong.ps (x0, x1, x2, ())) r :=
  returns_of_run (cfg := lWrong.cfg ) (cfgOK_of mixed tab_ok hs .nil) rfl Try.func3 (body_some (by kernel_rfl)) (Nat.le_of_ble_eq_true (by kernel_rfl)) ((lWrong.run_eq  m x0 x1 x2).trans h)
abbrev lWrong.Law : Prop := ∀ (x0 : Int) (x1 : Int) (x2 : Bool), lWrong.pre (x0, x1, x2, ()) = true → VE.Returns Try.prog 3 (ivA lWrong.ps (x0, x1, x2, ())) (lWrong.res (x0, x1, x2, ()))
theorem lWrong.mkR (H : ∀ (x0 : Int) (x1 : Int) (x2 : Bool), lWrong.pre (x0, x1, x2, ()) = true → VE.Returns Try.prog 3 (ivA lWrong.ps (x0, x1, x2, ())) (lWrong.res (x0, x1, x2, ()))) : SpecOK Try.prog 3 lWrong.sp :=
  specOf_ret Try.func3 (by kernel_rfl) (by kernel_rfl) fun (x : Int × Int × Bool × Unit) hx => H (x.1) (x.2.1) (x.2.2.1) hx
theorem lWrong.mk  (hs : SpecsOK Try.prog (lWrong.specs ))  (H : ∀ (x0 : Int) (x1 : Int) (x2 : Bool), lWrong.pre (x0, x1, x2, ()) = true → ∃ m, lWrong.go  m x0 x1 x2 = some (lWrong.res (x0, x1, x2, ()), [])) : SpecOK Try.prog 3 lWrong.sp :=
  lWrong.mkR fun x0 x1 x2 hx => (H x0 x1 x2 hx).elim fun _ hm => lWrong.ret  hs  x0 x1 x2 hm

/-! ### triage/triagelaw5.LinesNumbers -/
abbrev lNumbers.ps : List AK := [.d false (.int .i64)]
def lNumbers.pre : ElA lNumbers.ps → Bool := fun (x : Int × Unit) => fits (.int .i64) (x.1) && (true)
def lNumbers.res : ElA lNumbers.ps → IV := fun (x : Int × Unit) => (fun _ => vb true) x.1
def lNumbers.sp : ISpec := spOf lNumbers.ps lNumbers.pre lNumbers.res
abbrev lNumbers.OK : Prop := SpecOK Try.prog 4 lNumbers.sp
noncomputable def lNumbers.body : Code := bodyOf Try.f4
noncomputable def lNumbers.rs : List ResultVar := Try.f4.results.toList
def lNumbers.live : List (Nat × Live) := []
noncomputable def lNumbers.specs  : List (Nat × (List Bool × ISpec)) := [(10, ([], awake.sp)), (9, ([], split.sp)), (13, ([], number.sp)), (11, ([], joinR.sp)), (12, ([], digits.sp))]
noncomputable def lNumbers.ospecs  : List (Nat × OS) := []
noncomputable def lNumbers.cfg  : Cfg := ⟨lkp tab, lkp (lNumbers.specs ), lkp lNumbers.live, ⟨lkp (lNumbers.ospecs ), [], none, false, []⟩⟩
noncomputable def lNumbers.go  (m : Nat) (x0 : Int) : R := run (lNumbers.cfg ) 110 lNumbers.rs m [.code lNumbers.body] (enter (ivA lNumbers.ps (x0, ())))
theorem lNumbers.start  (m : Nat) (x0 : Int) : lNumbers.go  (m + 1) x0 =
  test (digits.pre ((IntKind.i64.wrap (Int.tmod (IntKind.u64.wrap x0) (1000001 : Int))), Unit.unit)) (
   test (joinR.pre ((((0 : Int), ((digitsB (IntKind.i64.wrap (Int.tmod (IntKind.u64.wrap x0) (1000001 : Int)))) :: ([] : List ByteArray))) :: ([] : List (El TLine))), Unit.unit)) (
    test (split.pre ((joinL (((0 : Int), ((digitsB (IntKind.i64.wrap (Int.tmod (IntKind.u64.wrap x0) (1000001 : Int)))) :: ([] : List ByteArray))) :: ([] : List (El TLine)))), Unit.unit)) (
     cond (bne (((splitL (joinL (((0 : Int), ((digitsB (IntKind.i64.wrap (Int.tmod (IntKind.u64.wrap x0) (1000001 : Int)))) :: ([] : List ByteArray))) :: ([] : List (El TLine)))))).2).2 (0 : Int)) (
      some ((.c (.v (.bool false))), [])) (
      cond (bne ((List.length ((splitL (joinL (((0 : Int), ((digitsB (IntKind.i64.wrap (Int.tmod (IntKind.u64.wrap x0) (1000001 : Int)))) :: ([] : List ByteArray))) :: ([] : List (El TLine)))))).1) : Int) (1 : Int)) (
       some ((.c (.v (.bool false))), [])) (
       test (decide ((0 : Int) < ((List.length ((splitL (joinL (((0 : Int), ((digitsB (IntKind.i64.wrap (Int.tmod (IntKind.u64.wrap x0) (1000001 : Int)))) :: ([] : List ByteArray))) :: ([] : List (El TLine)))))).1) : Int))) (
        cond (bne ((List.length ((rdEl TLine ((splitL (joinL (((0 : Int), ((digitsB (IntKind.i64.wrap (Int.tmod (IntKind.u64.wrap x0) (1000001 : Int)))) :: ([] : List ByteArray))) :: ([] : List (El TLine)))))).1 (Int.toNat (0 : Int)))).2) : Int) (1 : Int)) (
         some ((.c (.v (.bool false))), [])) (
         test (decide ((0 : Int) < ((List.length ((splitL (joinL (((0 : Int), ((digitsB (IntKind.i64.wrap (Int.tmod (IntKind.u64.wrap x0) (1000001 : Int)))) :: ([] : List ByteArray))) :: ([] : List (El TLine)))))).1) : Int))) (
          test (decide ((0 : Int) < ((List.length ((rdEl TLine ((splitL (joinL (((0 : Int), ((digitsB (IntKind.i64.wrap (Int.tmod (IntKind.u64.wrap x0) (1000001 : Int)))) :: ([] : List ByteArray))) :: ([] : List (El TLine)))))).1 (Int.toNat (0 : Int)))).2) : Int))) (
           test (number.pre ((rdEl .str ((rdEl TLine ((splitL (joinL (((0 : Int), ((digitsB (IntKind.i64.wrap (Int.tmod (IntKind.u64.wrap x0) (1000001 : Int)))) :: ([] : List ByteArray))) :: ([] : List (El TLine)))))).1 (Int.toNat (0 : Int)))).2 (Int.toNat (0 : Int))), Unit.unit)) (
            test (decide ((0 : Int) < ((List.length ((splitL (joinL (((0 : Int), ((digitsB (IntKind.i64.wrap (Int.tmod (IntKind.u64.wrap x0) (1000001 : Int)))) :: ([] : List ByteArray))) :: ([] : List (El TLine)))))).1) : Int))) (
             test (decide ((0 : Int) < ((List.length ((rdEl TLine ((splitL (joinL (((0 : Int), ((digitsB (IntKind.i64.wrap (Int.tmod (IntKind.u64.wrap x0) (1000001 : Int)))) :: ([] : List ByteArray))) :: ([] : List (El TLine)))))).1 (Int.toNat (0 : Int)))).2) : Int))) (
              test (decide (((ByteArray.size (⟨#[48]⟩ : ByteArray)) + (ByteArray.size (rdEl .str ((rdEl TLine ((splitL (joinL (((0 : Int), ((digitsB (IntKind.i64.wrap (Int.tmod (IntKind.u64.wrap x0) (1000001 : Int)))) :: ([] : List ByteArray))) :: ([] : List (El TLine)))))).1 (Int.toNat (0 : Int)))).2 (Int.toNat (0 : Int))))) ≤ 9223372036854775807)) (
               test (number.pre (((⟨#[48]⟩ : ByteArray) ++ (rdEl .str ((rdEl TLine ((splitL (joinL (((0 : Int), ((digitsB (IntKind.i64.wrap (Int.tmod (IntKind.u64.wrap x0) (1000001 : Int)))) :: ([] : List ByteArray))) :: ([] : List (El TLine)))))).1 (Int.toNat (0 : Int)))).2 (Int.toNat (0 : Int)))), Unit.unit)) (
                test (decide ((0 : Int) < ((List.length ((splitL (joinL (((0 : Int), ((digitsB (IntKind.i64.wrap (Int.tmod (IntKind.u64.wrap x0) (1000001 : Int)))) :: ([] : List ByteArray))) :: ([] : List (El TLine)))))).1) : Int))) (
                 test (decide ((0 : Int) < ((List.length ((rdEl TLine ((splitL (joinL (((0 : Int), ((digitsB (IntKind.i64.wrap (Int.tmod (IntKind.u64.wrap x0) (1000001 : Int)))) :: ([] : List ByteArray))) :: ([] : List (El TLine)))))).1 (Int.toNat (0 : Int)))).2) : Int))) (
                  test (decide (((ByteArray.size (⟨#[45]⟩ : ByteArray)) + (ByteArray.size (rdEl .str ((rdEl TLine ((splitL (joinL (((0 : Int), ((digitsB (IntKind.i64.wrap (Int.tmod (IntKind.u64.wrap x0) (1000001 : Int)))) :: ([] : List ByteArray))) :: ([] : List (El TLine)))))).1 (Int.toNat (0 : Int)))).2 (Int.toNat (0 : Int))))) ≤ 9223372036854775807)) (
                   test (number.pre (((⟨#[45]⟩ : ByteArray) ++ (rdEl .str ((rdEl TLine ((splitL (joinL (((0 : Int), ((digitsB (IntKind.i64.wrap (Int.tmod (IntKind.u64.wrap x0) (1000001 : Int)))) :: ([] : List ByteArray))) :: ([] : List (El TLine)))))).1 (Int.toNat (0 : Int)))).2 (Int.toNat (0 : Int)))), Unit.unit)) (
                    test (decide ((0 : Int) < ((List.length ((splitL (joinL (((0 : Int), ((digitsB (IntKind.i64.wrap (Int.tmod (IntKind.u64.wrap x0) (1000001 : Int)))) :: ([] : List ByteArray))) :: ([] : List (El TLine)))))).1) : Int))) (
                     test (decide ((0 : Int) < ((List.length ((rdEl TLine ((splitL (joinL (((0 : Int), ((digitsB (IntKind.i64.wrap (Int.tmod (IntKind.u64.wrap x0) (1000001 : Int)))) :: ([] : List ByteArray))) :: ([] : List (El TLine)))))).1 (Int.toNat (0 : Int)))).2) : Int))) (
                      test (decide (((ByteArray.size (rdEl .str ((rdEl TLine ((splitL (joinL (((0 : Int), ((digitsB (IntKind.i64.wrap (Int.tmod (IntKind.u64.wrap x0) (1000001 : Int)))) :: ([] : List ByteArray))) :: ([] : List (El TLine)))))).1 (Int.toNat (0 : Int)))).2 (Int.toNat (0 : Int)))) + (ByteArray.size (⟨#[48, 48, 48, 48, 48, 48, 49]⟩ : ByteArray))) ≤ 9223372036854775807)) (
                       test (number.pre (((rdEl .str ((rdEl TLine ((splitL (joinL (((0 : Int), ((digitsB (IntKind.i64.wrap (Int.tmod (IntKind.u64.wrap x0) (1000001 : Int)))) :: ([] : List ByteArray))) :: ([] : List (El TLine)))))).1 (Int.toNat (0 : Int)))).2 (Int.toNat (0 : Int))) ++ (⟨#[48, 48, 48, 48, 48, 48, 49]⟩ : ByteArray)), Unit.unit)) (
                        cond ((numB (rdEl .str ((rdEl TLine ((splitL (joinL (((0 : Int), ((digitsB (IntKind.i64.wrap (Int.tmod (IntKind.u64.wrap x0) (1000001 : Int)))) :: ([] : List ByteArray))) :: ([] : List (El TLine)))))).1 (Int.toNat (0 : Int)))).2 (Int.toNat (0 : Int))))).2 (
                         cond (((numB (rdEl .str ((rdEl TLine ((splitL (joinL (((0 : Int), ((digitsB (IntKind.i64.wrap (Int.tmod (IntKind.u64.wrap x0) (1000001 : Int)))) :: ([] : List ByteArray))) :: ([] : List (El TLine)))))).1 (Int.toNat (0 : Int)))).2 (Int.toNat (0 : Int))))).1 == (IntKind.i64.wrap (Int.tmod (IntKind.u64.wrap x0) (1000001 : Int)))) (
                          cond (Bool.not ((numB ((⟨#[48]⟩ : ByteArray) ++ (rdEl .str ((rdEl TLine ((splitL (joinL (((0 : Int), ((digitsB (IntKind.i64.wrap (Int.tmod (IntKind.u64.wrap x0) (1000001 : Int)))) :: ([] : List ByteArray))) :: ([] : List (El TLine)))))).1 (Int.toNat (0 : Int)))).2 (Int.toNat (0 : Int)))))).2) (
                           cond (Bool.not ((numB ((⟨#[45]⟩ : ByteArray) ++ (rdEl .str ((rdEl TLine ((splitL (joinL (((0 : Int), ((digitsB (IntKind.i64.wrap (Int.tmod (IntKind.u64.wrap x0) (1000001 : Int)))) :: ([] : List ByteArray))) :: ([] : List (El TLine)))))).1 (Int.toNat (0 : Int)))).2 (Int.toNat (0 : Int)))))).2) (
                            cond (Bool.not ((numB ((rdEl .str ((rdEl TLine ((splitL (joinL (((0 : Int), ((digitsB (IntKind.i64.wrap (Int.tmod (IntKind.u64.wrap x0) (1000001 : Int)))) :: ([] : List ByteArray))) :: ([] : List (El TLine)))))).1 (Int.toNat (0 : Int)))).2 (Int.toNat (0 : Int))) ++ (⟨#[48, 48, 48, 48, 48, 48, 49]⟩ : ByteArray)))).2) (
                             some ((.c (.v (.bool true))), [])) (
                             some ((.c (.v (.bool false))), []))) (
                            some ((.c (.v (.bool false))), []))) (
                           some ((.c (.v (.bool false))), []))) (
                          some ((.c (.v (.bool false))), []))) (
                         some ((.c (.v (.bool false))), [])))))))))))))))))))))))) := by kernel_rfl
theorem lNumbers.run_eq  (m : Nat) (x0 : Int) : run (lNumbers.cfg ) Try.f4.ntmps Try.f4.results.toList m [.code (bodyOf Try.f4)] (enter (ivA lNumbers.ps (x0, ()))) = lNumbers.go  m x0 := by kernel_rfl
theorem lNumbers.ret  (hs : SpecsOK Try.prog (lNumbers.specs ))  (x0 : Int) {m : Nat} {r : IV} (h : lNumbers.go  m x0 = some (r, [])) : VE.Returns Try.prog 4 (ivA lNumbers.ps (x0, ())) r :=
  returns_of_run (cfg := lNumbers.cfg ) (cfgOK_of mixed tab_ok hs .nil) rfl Try.func4 (body_some (by kernel_rfl)) (Nat.le_of_ble_eq_true (by kernel_rfl)) ((lNumbers.run_eq  m x0).trans h)
abbrev lNumbers.Law : Prop := ∀ (x0 : Int), lNumbers.pre (x0, ()) = true → VE.Returns Try.prog 4 (ivA lNumbers.ps (x0, ())) (lNumbers.res (x0, ()))
theorem lNumbers.mkR (H : ∀ (x0 : Int), lNumbers.pre (x0, ()) = true → VE.Returns Try.prog 4 (ivA lNumbers.ps (x0, ())) (lNumbers.res (x0, ()))) : SpecOK Try.prog 4 lNumbers.sp :=
  specOf_ret Try.func4 (by kernel_rfl) (by kernel_rfl) fun (x : Int × Unit) hx => H (x.1) hx
theorem lNumbers.mk  (hs : SpecsOK Try.prog (lNumbers.specs ))  (H : ∀ (x0 : Int), lNumbers.pre (x0, ()) = true → ∃ m, lNumbers.go  m x0 = some (lNumbers.res (x0, ()), [])) : SpecOK Try.prog 4 lNumbers.sp :=
  lNumbers.mkR fun x0 hx => (H x0 hx).elim fun _ hm => lNumbers.ret  hs  x0 hm

/-! ### triage/triagelaw5.LinesNames -/
abbrev lNames.ps : List AK := [.d false (.int .i64), .d false (.int .u8)]
def lNames.pre : ElA lNames.ps → Bool := fun (x : Int × Int × Unit) => fits (.int .i64) (x.1) && (fits (.int .u8) (x.2.1) && ((fun _ c => decide (0 ≤ c ∧ c ≤ 255)) x.1 x.2.1 && (true)))
def lNames.res : ElA lNames.ps → IV := fun (x : Int × Int × Unit) => (fun _ _ => vb true) x.1 x.2.1
def lNames.sp : ISpec := spOf lNames.ps lNames.pre lNames.res
abbrev lNames.OK : Prop := SpecOK Try.prog 5 lNames.sp
noncomputable def lNames.body : Code := bodyOf Try.f5
noncomputable def lNames.rs : List ResultVar := Try.f5.results.toList
def lNames.live : List (Nat × Live) := [(4, ⟨[(0, .plain), (1, .plain), (5, .plain), (11, .plain), (12, .plain)], []⟩)]
noncomputable def lNames.specs  : List (Nat × (List Bool × ISpec)) := [(10, ([], awake.sp)), (14, ([], nameW.sp)), (15, ([], wordR.sp))]
noncomputable def lNames.ospecs  : List (Nat × OS) := []
noncomputable def lNames.cfg  : Cfg := ⟨lkp tab, lkp (lNames.specs ), lkp lNames.live, ⟨lkp (lNames.ospecs ), [], none, false, []⟩⟩
noncomputable def lNames.l1  (m : Nat) (x0 : Int) (x1 : Int) (x2 : ByteArray) (x3 : Int) (x4 : Int) : R := run (lNames.cfg ) 77 lNames.rs m ((todoR 4 lNames.body []).getD []) ⟨ofList (.c .junk) [(0, (.c (.v (.int .i64 x0)))), (1, (.c (.v (.int .u8 x1)))), (5, (.c (.v (.string x2)))), (11, (.c (.v (.int .i64 x3)))), (12, (.c (.v (.int .i64 x4))))], ofList none [], ofList false []⟩
noncomputable def lNames.go  (m : Nat) (x0 : Int) (x1 : Int) : R := run (lNames.cfg ) 77 lNames.rs m [.code lNames.body] (enter (ivA lNames.ps (x0, x1, ())))
theorem lNames.start  (m : Nat) (x0 : Int) (x1 : Int) : lNames.go  (m + 1) x0 x1 =
  lNames.l1  m (IntKind.i64.wrap (Int.tmod (IntKind.u64.wrap x0) (16 : Int))) x1 (⟨#[]⟩ : ByteArray) (IntKind.i64.wrap (Int.tmod (IntKind.u64.wrap x0) (16 : Int))) (0 : Int) := by kernel_rfl
theorem lNames.s1  (m : Nat) (x0 : Int) (x1 : Int) (x2 : ByteArray) (x3 : Int) (x4 : Int) : lNames.l1  (m + 1) x0 x1 x2 x3 x4 =
  cond (decide (x4 < x3)) (
   test (decide (((ByteArray.size x2) + (ByteArray.size (⟨#[97]⟩ : ByteArray))) ≤ 9223372036854775807)) (
    lNames.l1  m x0 x1 (x2 ++ (⟨#[97]⟩ : ByteArray)) x3 (IntKind.i64.wrap (x4 + (1 : Int))))) (
   cond (decide (x1 ≥ (97 : Int))) (
    cond (decide (x1 ≤ (122 : Int))) (
     test (nameW.pre (x2, Unit.unit)) (
      cond (decide (x0 ≥ (1 : Int))) (
       cond ((nameB x2) == (decide (x0 ≤ (12 : Int)))) (
        cond ((nameB ((⟨#[120]⟩ : ByteArray) ++ (bytesStr (x1 :: ([] : List Int))))) == true) (
         cond ((nameB (bytesStr (x1 :: ([] : List Int)))) == (bne x1 (45 : Int))) (
          some ((.c (.v (.bool true))), [])) (
          some ((.c (.v (.bool false))), []))) (
         some ((.c (.v (.bool false))), []))) (
        some ((.c (.v (.bool false))), []))) (
       cond ((nameB x2) == false) (
        cond ((nameB ((⟨#[120]⟩ : ByteArray) ++ (bytesStr (x1 :: ([] : List Int))))) == true) (
         cond ((nameB (bytesStr (x1 :: ([] : List Int)))) == (bne x1 (45 : Int))) (
          some ((.c (.v (.bool true))), [])) (
          some ((.c (.v (.bool false))), []))) (
         some ((.c (.v (.bool false))), []))) (
        some ((.c (.v (.bool false))), []))))) (
     cond (decide (x1 ≥ (48 : Int))) (
      cond (decide (x1 ≤ (57 : Int))) (
       test (nameW.pre (x2, Unit.unit)) (
        cond (decide (x0 ≥ (1 : Int))) (
         cond ((nameB x2) == (decide (x0 ≤ (12 : Int)))) (
          cond ((nameB ((⟨#[120]⟩ : ByteArray) ++ (bytesStr (x1 :: ([] : List Int))))) == true) (
           cond ((nameB (bytesStr (x1 :: ([] : List Int)))) == (bne x1 (45 : Int))) (
            some ((.c (.v (.bool true))), [])) (
            some ((.c (.v (.bool false))), []))) (
           some ((.c (.v (.bool false))), []))) (
          some ((.c (.v (.bool false))), []))) (
         cond ((nameB x2) == false) (
          cond ((nameB ((⟨#[120]⟩ : ByteArray) ++ (bytesStr (x1 :: ([] : List Int))))) == true) (
           cond ((nameB (bytesStr (x1 :: ([] : List Int)))) == (bne x1 (45 : Int))) (
            some ((.c (.v (.bool true))), [])) (
            some ((.c (.v (.bool false))), []))) (
           some ((.c (.v (.bool false))), []))) (
          some ((.c (.v (.bool false))), []))))) (
       cond (x1 == (45 : Int)) (
        test (nameW.pre (x2, Unit.unit)) (
         cond (decide (x0 ≥ (1 : Int))) (
          cond ((nameB x2) == (decide (x0 ≤ (12 : Int)))) (
           cond ((nameB ((⟨#[120]⟩ : ByteArray) ++ (bytesStr (x1 :: ([] : List Int))))) == true) (
            cond ((nameB (bytesStr (x1 :: ([] : List Int)))) == (bne x1 (45 : Int))) (
             some ((.c (.v (.bool true))), [])) (
             some ((.c (.v (.bool false))), []))) (
            some ((.c (.v (.bool false))), []))) (
           some ((.c (.v (.bool false))), []))) (
          cond ((nameB x2) == false) (
           cond ((nameB ((⟨#[120]⟩ : ByteArray) ++ (bytesStr (x1 :: ([] : List Int))))) == true) (
            cond ((nameB (bytesStr (x1 :: ([] : List Int)))) == (bne x1 (45 : Int))) (
             some ((.c (.v (.bool true))), [])) (
             some ((.c (.v (.bool false))), []))) (
            some ((.c (.v (.bool false))), []))) (
           some ((.c (.v (.bool false))), []))))) (
        test (nameW.pre (x2, Unit.unit)) (
         cond (decide (x0 ≥ (1 : Int))) (
          cond ((nameB x2) == (decide (x0 ≤ (12 : Int)))) (
           cond ((nameB ((⟨#[120]⟩ : ByteArray) ++ (bytesStr (x1 :: ([] : List Int))))) == (x1 == (46 : Int))) (
            cond (x1 == (46 : Int)) (
             cond ((nameB (bytesStr (x1 :: ([] : List Int)))) == (bne x1 (45 : Int))) (
              some ((.c (.v (.bool true))), [])) (
              some ((.c (.v (.bool false))), []))) (
             cond ((nameB (bytesStr (x1 :: ([] : List Int)))) == false) (
              some ((.c (.v (.bool true))), [])) (
              some ((.c (.v (.bool false))), [])))) (
            some ((.c (.v (.bool false))), []))) (
           some ((.c (.v (.bool false))), []))) (
          cond ((nameB x2) == false) (
           cond ((nameB ((⟨#[120]⟩ : ByteArray) ++ (bytesStr (x1 :: ([] : List Int))))) == (x1 == (46 : Int))) (
            cond (x1 == (46 : Int)) (
             cond ((nameB (bytesStr (x1 :: ([] : List Int)))) == (bne x1 (45 : Int))) (
              some ((.c (.v (.bool true))), [])) (
              some ((.c (.v (.bool false))), []))) (
             cond ((nameB (bytesStr (x1 :: ([] : List Int)))) == false) (
              some ((.c (.v (.bool true))), [])) (
              some ((.c (.v (.bool false))), [])))) (
            some ((.c (.v (.bool false))), []))) (
           some ((.c (.v (.bool false))), []))))))) (
      cond (x1 == (45 : Int)) (
       test (nameW.pre (x2, Unit.unit)) (
        cond (decide (x0 ≥ (1 : Int))) (
         cond ((nameB x2) == (decide (x0 ≤ (12 : Int)))) (
          cond ((nameB ((⟨#[120]⟩ : ByteArray) ++ (bytesStr (x1 :: ([] : List Int))))) == true) (
           cond ((nameB (bytesStr (x1 :: ([] : List Int)))) == (bne x1 (45 : Int))) (
            some ((.c (.v (.bool true))), [])) (
            some ((.c (.v (.bool false))), []))) (
           some ((.c (.v (.bool false))), []))) (
          some ((.c (.v (.bool false))), []))) (
         cond ((nameB x2) == false) (
          cond ((nameB ((⟨#[120]⟩ : ByteArray) ++ (bytesStr (x1 :: ([] : List Int))))) == true) (
           cond ((nameB (bytesStr (x1 :: ([] : List Int)))) == (bne x1 (45 : Int))) (
            some ((.c (.v (.bool true))), [])) (
            some ((.c (.v (.bool false))), []))) (
           some ((.c (.v (.bool false))), []))) (
          some ((.c (.v (.bool false))), []))))) (
       test (nameW.pre (x2, Unit.unit)) (
        cond (decide (x0 ≥ (1 : Int))) (
         cond ((nameB x2) == (decide (x0 ≤ (12 : Int)))) (
          cond ((nameB ((⟨#[120]⟩ : ByteArray) ++ (bytesStr (x1 :: ([] : List Int))))) == (x1 == (46 : Int))) (
           cond (x1 == (46 : Int)) (
            cond ((nameB (bytesStr (x1 :: ([] : List Int)))) == (bne x1 (45 : Int))) (
             some ((.c (.v (.bool true))), [])) (
             some ((.c (.v (.bool false))), []))) (
            cond ((nameB (bytesStr (x1 :: ([] : List Int)))) == false) (
             some ((.c (.v (.bool true))), [])) (
             some ((.c (.v (.bool false))), [])))) (
           some ((.c (.v (.bool false))), []))) (
          some ((.c (.v (.bool false))), []))) (
         cond ((nameB x2) == false) (
          cond ((nameB ((⟨#[120]⟩ : ByteArray) ++ (bytesStr (x1 :: ([] : List Int))))) == (x1 == (46 : Int))) (
           cond (x1 == (46 : Int)) (
            cond ((nameB (bytesStr (x1 :: ([] : List Int)))) == (bne x1 (45 : Int))) (
             some ((.c (.v (.bool true))), [])) (
             some ((.c (.v (.bool false))), []))) (
            cond ((nameB (bytesStr (x1 :: ([] : List Int)))) == false) (
             some ((.c (.v (.bool true))), [])) (
             some ((.c (.v (.bool false))), [])))) (
           some ((.c (.v (.bool false))), []))) (
          some ((.c (.v (.bool false))), [])))))))) (
    cond (decide (x1 ≥ (48 : Int))) (
     cond (decide (x1 ≤ (57 : Int))) (
      test (nameW.pre (x2, Unit.unit)) (
       cond (decide (x0 ≥ (1 : Int))) (
        cond ((nameB x2) == (decide (x0 ≤ (12 : Int)))) (
         cond ((nameB ((⟨#[120]⟩ : ByteArray) ++ (bytesStr (x1 :: ([] : List Int))))) == true) (
          cond ((nameB (bytesStr (x1 :: ([] : List Int)))) == (bne x1 (45 : Int))) (
           some ((.c (.v (.bool true))), [])) (
           some ((.c (.v (.bool false))), []))) (
          some ((.c (.v (.bool false))), []))) (
         some ((.c (.v (.bool false))), []))) (
        cond ((nameB x2) == false) (
         cond ((nameB ((⟨#[120]⟩ : ByteArray) ++ (bytesStr (x1 :: ([] : List Int))))) == true) (
          cond ((nameB (bytesStr (x1 :: ([] : List Int)))) == (bne x1 (45 : Int))) (
           some ((.c (.v (.bool true))), [])) (
           some ((.c (.v (.bool false))), []))) (
          some ((.c (.v (.bool false))), []))) (
         some ((.c (.v (.bool false))), []))))) (
      cond (x1 == (45 : Int)) (
       test (nameW.pre (x2, Unit.unit)) (
        cond (decide (x0 ≥ (1 : Int))) (
         cond ((nameB x2) == (decide (x0 ≤ (12 : Int)))) (
          cond ((nameB ((⟨#[120]⟩ : ByteArray) ++ (bytesStr (x1 :: ([] : List Int))))) == true) (
           cond ((nameB (bytesStr (x1 :: ([] : List Int)))) == (bne x1 (45 : Int))) (
            some ((.c (.v (.bool true))), [])) (
            some ((.c (.v (.bool false))), []))) (
           some ((.c (.v (.bool false))), []))) (
          some ((.c (.v (.bool false))), []))) (
         cond ((nameB x2) == false) (
          cond ((nameB ((⟨#[120]⟩ : ByteArray) ++ (bytesStr (x1 :: ([] : List Int))))) == true) (
           cond ((nameB (bytesStr (x1 :: ([] : List Int)))) == (bne x1 (45 : Int))) (
            some ((.c (.v (.bool true))), [])) (
            some ((.c (.v (.bool false))), []))) (
           some ((.c (.v (.bool false))), []))) (
          some ((.c (.v (.bool false))), []))))) (
       test (nameW.pre (x2, Unit.unit)) (
        cond (decide (x0 ≥ (1 : Int))) (
         cond ((nameB x2) == (decide (x0 ≤ (12 : Int)))) (
          cond ((nameB ((⟨#[120]⟩ : ByteArray) ++ (bytesStr (x1 :: ([] : List Int))))) == (x1 == (46 : Int))) (
           cond (x1 == (46 : Int)) (
            cond ((nameB (bytesStr (x1 :: ([] : List Int)))) == (bne x1 (45 : Int))) (
             some ((.c (.v (.bool true))), [])) (
             some ((.c (.v (.bool false))), []))) (
            cond ((nameB (bytesStr (x1 :: ([] : List Int)))) == false) (
             some ((.c (.v (.bool true))), [])) (
             some ((.c (.v (.bool false))), [])))) (
           some ((.c (.v (.bool false))), []))) (
          some ((.c (.v (.bool false))), []))) (
         cond ((nameB x2) == false) (
          cond ((nameB ((⟨#[120]⟩ : ByteArray) ++ (bytesStr (x1 :: ([] : List Int))))) == (x1 == (46 : Int))) (
           cond (x1 == (46 : Int)) (
            cond ((nameB (bytesStr (x1 :: ([] : List Int)))) == (bne x1 (45 : Int))) (
             some ((.c (.v (.bool true))), [])) (
             some ((.c (.v (.bool false))), []))) (
            cond ((nameB (bytesStr (x1 :: ([] : List Int)))) == false) (
             some ((.c (.v (.bool true))), [])) (
             some ((.c (.v (.bool false))), [])))) (
           some ((.c (.v (.bool false))), []))) (
          some ((.c (.v (.bool false))), []))))))) (
     cond (x1 == (45 : Int)) (
      test (nameW.pre (x2, Unit.unit)) (
       cond (decide (x0 ≥ (1 : Int))) (
        cond ((nameB x2) == (decide (x0 ≤ (12 : Int)))) (
         cond ((nameB ((⟨#[120]⟩ : ByteArray) ++ (bytesStr (x1 :: ([] : List Int))))) == true) (
          cond ((nameB (bytesStr (x1 :: ([] : List Int)))) == (bne x1 (45 : Int))) (
           some ((.c (.v (.bool true))), [])) (
           some ((.c (.v (.bool false))), []))) (
          some ((.c (.v (.bool false))), []))) (
         some ((.c (.v (.bool false))), []))) (
        cond ((nameB x2) == false) (
         cond ((nameB ((⟨#[120]⟩ : ByteArray) ++ (bytesStr (x1 :: ([] : List Int))))) == true) (
          cond ((nameB (bytesStr (x1 :: ([] : List Int)))) == (bne x1 (45 : Int))) (
           some ((.c (.v (.bool true))), [])) (
           some ((.c (.v (.bool false))), []))) (
          some ((.c (.v (.bool false))), []))) (
         some ((.c (.v (.bool false))), []))))) (
      test (nameW.pre (x2, Unit.unit)) (
       cond (decide (x0 ≥ (1 : Int))) (
        cond ((nameB x2) == (decide (x0 ≤ (12 : Int)))) (
         cond ((nameB ((⟨#[120]⟩ : ByteArray) ++ (bytesStr (x1 :: ([] : List Int))))) == (x1 == (46 : Int))) (
          cond (x1 == (46 : Int)) (
           cond ((nameB (bytesStr (x1 :: ([] : List Int)))) == (bne x1 (45 : Int))) (
            some ((.c (.v (.bool true))), [])) (
            some ((.c (.v (.bool false))), []))) (
           cond ((nameB (bytesStr (x1 :: ([] : List Int)))) == false) (
            some ((.c (.v (.bool true))), [])) (
            some ((.c (.v (.bool false))), [])))) (
          some ((.c (.v (.bool false))), []))) (
         some ((.c (.v (.bool false))), []))) (
        cond ((nameB x2) == false) (
         cond ((nameB ((⟨#[120]⟩ : ByteArray) ++ (bytesStr (x1 :: ([] : List Int))))) == (x1 == (46 : Int))) (
          cond (x1 == (46 : Int)) (
           cond ((nameB (bytesStr (x1 :: ([] : List Int)))) == (bne x1 (45 : Int))) (
            some ((.c (.v (.bool true))), [])) (
            some ((.c (.v (.bool false))), []))) (
           cond ((nameB (bytesStr (x1 :: ([] : List Int)))) == false) (
            some ((.c (.v (.bool true))), [])) (
            some ((.c (.v (.bool false))), [])))) (
          some ((.c (.v (.bool false))), []))) (
         some ((.c (.v (.bool false))), [])))))))) := by kernel_rfl
theorem lNames.run_eq  (m : Nat) (x0 : Int) (x1 : Int) : run (lNames.cfg ) Try.f5.ntmps Try.f5.results.toList m [.code (bodyOf Try.f5)] (enter (ivA lNames.ps (x0, x1, ()))) = lNames.go  m x0 x1 := by kernel_rfl
theorem lNames.ret  (hs : SpecsOK Try.prog (lNames.specs ))  (x0 : Int) (x1 : Int) {m : Nat} {r : IV} (h : lNames.go  m x0 x1 = some (r, [])) : VE.Returns Try.prog 5 (ivA lNames.ps (x0, x1, ())) r :=
  returns_of_run (cfg := lNames.cfg ) (cfgOK_of mixed tab_ok hs .nil) rfl Try.func5 (body_some (by kernel_rfl)) (Nat.le_of_ble_eq_true (by kernel_rfl)) ((lNames.run_eq  m x0 x1).trans h)
abbrev lNames.Law : Prop := ∀ (x0 : Int) (x1 : Int), lNames.pre (x0, x1, ()) = true → VE.Returns Try.prog 5 (ivA lNames.ps (x0, x1, ())) (lNames.res (x0, x1, ()))
theorem lNames.mkR (H : ∀ (x0 : Int) (x1 : Int), lNames.pre (x0, x1, ()) = true → VE.Returns Try.prog 5 (ivA lNames.ps (x0, x1, ())) (lNames.res (x0, x1, ()))) : SpecOK Try.prog 5 lNames.sp :=
  specOf_ret Try.func5 (by kernel_rfl) (by kernel_rfl) fun (x : Int × Int × Unit) hx => H (x.1) (x.2.1) hx
theorem lNames.mk  (hs : SpecsOK Try.prog (lNames.specs ))  (H : ∀ (x0 : Int) (x1 : Int), lNames.pre (x0, x1, ()) = true → ∃ m, lNames.go  m x0 x1 = some (lNames.res (x0, x1, ()), [])) : SpecOK Try.prog 5 lNames.sp :=
  lNames.mkR fun x0 x1 hx => (H x0 x1 hx).elim fun _ hm => lNames.ret  hs  x0 x1 hm

/-! ### triage/triagelaw5.LinesNone -/
abbrev lNone.ps : List AK := [.d false (.sl (.int .i64)), .d false (.int .i64)]
def lNone.pre : ElA lNone.ps → Bool := fun (x : (List Int) × Int × Unit) => fits (.sl (.int .i64)) (x.1) && (fits (.int .i64) (x.2.1) && (true))
def lNone.res : ElA lNone.ps → IV := fun (x : (List Int) × Int × Unit) => (fun _ _ => vb true) x.1 x.2.1
def lNone.sp : ISpec := spOf lNone.ps lNone.pre lNone.res
abbrev lNone.OK : Prop := SpecOK Try.prog 6 lNone.sp
noncomputable def lNone.body : Code := bodyOf Try.f6
noncomputable def lNone.rs : List ResultVar := Try.f6.results.toList
def lNone.live : List (Nat × Live) := [(19, ⟨[(7, .arr 3 (.int .i64)), (68, .sl TLine), (69, .plain), (70, .plain)], []⟩), (8, ⟨[(5, .plain), (6, .plain), (7, .arr 3 (.int .i64)), (26, .sl (.int .i64)), (27, .plain), (28, .plain)], []⟩)]
noncomputable def lNone.specs  : List (Nat × (List Bool × ISpec)) := [(10, ([], awake.sp)), (9, ([], split.sp))]
noncomputable def lNone.ospecs  : List (Nat × OS) := []
noncomputable def lNone.cfg  : Cfg := ⟨lkp tab, lkp (lNone.specs ), lkp lNone.live, ⟨lkp (lNone.ospecs ), [], none, false, []⟩⟩
noncomputable def lNone.l1  (m : Nat) (x0 : ByteArray) (x1 : ByteArray) (x2 : List Int) (x3 : Int) (x4 : Int) (x5 : List Int) : R := run (lNone.cfg ) 104 lNone.rs m ((todoR 8 lNone.body []).getD []) ⟨ofList (.c .junk) [(5, (.c (.v (.string x0)))), (6, (.c (.v (.string x1)))), (7, (.c (.sref 1022))), (26, (.c (.sl (.int .i64) x2))), (27, (.c (.v (.int .i64 x3)))), (28, (.c (.v (.int .i64 x4))))], ofList none [(1022, some (.arr 3 (.int .i64) x5 false))], ofList false [(1022, true)]⟩
noncomputable def lNone.l2  (m : Nat) (x0 : List (El TLine)) (x1 : Int) (x2 : Int) (x3 : List Int) : R := run (lNone.cfg ) 104 lNone.rs m ((todoR 19 lNone.body []).getD []) ⟨ofList (.c .junk) [(7, (.c (.sref 1022))), (68, (.c (.sl TLine x0))), (69, (.c (.v (.int .i64 x1)))), (70, (.c (.v (.int .i64 x2))))], ofList none [(1022, some (.arr 3 (.int .i64) x3 false))], ofList false [(1022, true)]⟩
noncomputable def lNone.go  (m : Nat) (x0 : (List Int)) (x1 : Int) : R := run (lNone.cfg ) 104 lNone.rs m [.code lNone.body] (enter (ivA lNone.ps (x0, x1, ())))
theorem lNone.start  (m : Nat) (x0 : (List Int)) (x1 : Int) : lNone.go  (m + 1) x0 x1 =
  cond (decide (((List.length x0) : Int) > (20 : Int))) (
   some ((.c (.v (.bool true))), [])) (
   test (decide ((0 : Int) ≤ (ite ((IntKind.i64.wrap (Int.tmod (IntKind.u64.wrap x1) (5 : Int))) < (4 : Int)) (IntKind.i64.wrap (Int.tmod (IntKind.u64.wrap x1) (5 : Int))) (4 : Int)))) (
    test (decide ((ite ((IntKind.i64.wrap (Int.tmod (IntKind.u64.wrap x1) (5 : Int))) < (4 : Int)) (IntKind.i64.wrap (Int.tmod (IntKind.u64.wrap x1) (5 : Int))) (4 : Int)) ≤ ((ByteArray.size (⟨#[32, 32, 32, 32]⟩ : ByteArray)) : Int))) (
     lNone.l1  m (ByteArray.extract (⟨#[32, 32, 32, 32]⟩ : ByteArray) 0 (Int.toNat (ite ((IntKind.i64.wrap (Int.tmod (IntKind.u64.wrap x1) (5 : Int))) < (4 : Int)) (IntKind.i64.wrap (Int.tmod (IntKind.u64.wrap x1) (5 : Int))) (4 : Int)))) (⟨#[]⟩ : ByteArray) x0 ((List.length x0) : Int) (0 : Int) ([] : List Int)))) := by kernel_rfl
theorem lNone.s1  (m : Nat) (x0 : ByteArray) (x1 : ByteArray) (x2 : List Int) (x3 : Int) (x4 : Int) (x5 : List Int) : lNone.l1  (m + 1) x0 x1 x2 x3 x4 x5 =
  cond (decide (x4 < x3)) (
   test (decide ((0 : Int) ≤ x4)) (
    test (decide (x4 < ((List.length x2) : Int))) (
     cond ((IntKind.i64.wrap ((BitVec.toNat ((BitVec.ofInt (Go.IntKind.bits Go.IntKind.i64) (rdEl (.int .i64) x2 (Int.toNat x4))) &&& (BitVec.ofInt (Go.IntKind.bits Go.IntKind.i64) (1 : Int)))) : Int)) == (0 : Int)) (
      test (decide (((ByteArray.size x0) + (ByteArray.size (⟨#[119]⟩ : ByteArray))) ≤ 9223372036854775807)) (
       test (decide (((ByteArray.size (x0 ++ (⟨#[119]⟩ : ByteArray))) + (ByteArray.size x0)) ≤ 9223372036854775807)) (
        test (decide (((ByteArray.size ((x0 ++ (⟨#[119]⟩ : ByteArray)) ++ x0)) + (ByteArray.size (⟨#[32, 118, 10]⟩ : ByteArray))) ≤ 9223372036854775807)) (
         test (decide (((ByteArray.size x1) + (ByteArray.size (((x0 ++ (⟨#[119]⟩ : ByteArray)) ++ x0) ++ (⟨#[32, 118, 10]⟩ : ByteArray)))) ≤ 9223372036854775807)) (
          test (decide (((List.length x5) + (List.length ((IntKind.i64.wrap (x4 + (1 : Int))) :: ([] : List Int)))) ≤ (lim 8))) (
           lNone.l1  m x0 (x1 ++ (((x0 ++ (⟨#[119]⟩ : ByteArray)) ++ x0) ++ (⟨#[32, 118, 10]⟩ : ByteArray))) x2 x3 (IntKind.i64.wrap (x4 + (1 : Int))) (x5 ++ ((IntKind.i64.wrap (x4 + (1 : Int))) :: ([] : List Int))))))))) (
      test (decide (((ByteArray.size x0) + (ByteArray.size (⟨#[35, 110, 111, 10]⟩ : ByteArray))) ≤ 9223372036854775807)) (
       test (decide (((ByteArray.size x1) + (ByteArray.size (x0 ++ (⟨#[35, 110, 111, 10]⟩ : ByteArray)))) ≤ 9223372036854775807)) (
        lNone.l1  m x0 (x1 ++ (x0 ++ (⟨#[35, 110, 111, 10]⟩ : ByteArray))) x2 x3 (IntKind.i64.wrap (x4 + (1 : Int))) x5)))))) (
   test (split.pre (x1, Unit.unit)) (
    cond (bne (((splitL x1)).2).2 (0 : Int)) (
     some ((.c (.v (.bool false))), [])) (
     cond (bne ((List.length ((splitL x1)).1) : Int) ((List.length x5) : Int)) (
      some ((.c (.v (.bool false))), [])) (
      lNone.l2  m ((splitL x1)).1 ((List.length ((splitL x1)).1) : Int) (0 : Int) x5)))) := by kernel_rfl
theorem lNone.s2  (m : Nat) (x0 : List (El TLine)) (x1 : Int) (x2 : Int) (x3 : List Int) : lNone.l2  (m + 1) x0 x1 x2 x3 =
  cond (decide (x2 < x1)) (
   test (decide ((0 : Int) ≤ x2)) (
    test (decide (x2 < ((List.length x0) : Int))) (
     test (decide ((0 : Int) ≤ x2)) (
      test (decide (x2 < ((List.length x3) : Int))) (
       cond (bne ((rdEl TLine x0 (Int.toNat x2))).1 (rdEl (.int .i64) x3 (Int.toNat x2))) (
        some ((.c (.v (.bool false))), [])) (
        cond (bne ((List.length ((rdEl TLine x0 (Int.toNat x2))).2) : Int) (2 : Int)) (
         some ((.c (.v (.bool false))), [])) (
         test (decide ((0 : Int) < ((List.length ((rdEl TLine x0 (Int.toNat x2))).2) : Int))) (
          cond (Bool.not ((ByteArray.toList (rdEl .str ((rdEl TLine x0 (Int.toNat x2))).2 (Int.toNat (0 : Int)))) == (ByteArray.toList (⟨#[119]⟩ : ByteArray)))) (
           some ((.c (.v (.bool false))), [])) (
           test (decide ((1 : Int) < ((List.length ((rdEl TLine x0 (Int.toNat x2))).2) : Int))) (
            cond (Bool.not ((ByteArray.toList (rdEl .str ((rdEl TLine x0 (Int.toNat x2))).2 (Int.toNat (1 : Int)))) == (ByteArray.toList (⟨#[118]⟩ : ByteArray)))) (
             some ((.c (.v (.bool false))), [])) (
             lNone.l2  m x0 x1 (IntKind.i64.wrap (x2 + (1 : Int))) x3))))))))))) (
   some ((.c (.v (.bool true))), [])) := by kernel_rfl
theorem lNone.run_eq  (m : Nat) (x0 : (List Int)) (x1 : Int) : run (lNone.cfg ) Try.f6.ntmps Try.f6.results.toList m [.code (bodyOf Try.f6)] (enter (ivA lNone.ps (x0, x1, ()))) = lNone.go  m x0 x1 := by kernel_rfl
theorem lNone.ret  (hs : SpecsOK Try.prog (lNone.specs ))  (x0 : (List Int)) (x1 : Int) {m : Nat} {r : IV} (h : lNone.go  m x0 x1 = some (r, [])) : VE.Returns Try.prog 6 (ivA lNone.ps (x0, x1, ())) r :=
  returns_of_run (cfg := lNone.cfg ) (cfgOK_of mixed tab_ok hs .nil) rfl Try.func6 (body_some (by kernel_rfl)) (Nat.le_of_ble_eq_true (by kernel_rfl)) ((lNone.run_eq  m x0 x1).trans h)
abbrev lNone.Law : Prop := ∀ (x0 : (List Int)) (x1 : Int), lNone.pre (x0, x1, ()) = true → VE.Returns Try.prog 6 (ivA lNone.ps (x0, x1, ())) (lNone.res (x0, x1, ()))
theorem lNone.mkR (H : ∀ (x0 : (List Int)) (x1 : Int), lNone.pre (x0, x1, ()) = true → VE.Returns Try.prog 6 (ivA lNone.ps (x0, x1, ())) (lNone.res (x0, x1, ()))) : SpecOK Try.prog 6 lNone.sp :=
  specOf_ret Try.func6 (by kernel_rfl) (by kernel_rfl) fun (x : (List Int) × Int × Unit) hx => H (x.1) (x.2.1) hx
theorem lNone.mk  (hs : SpecsOK Try.prog (lNone.specs ))  (H : ∀ (x0 : (List Int)) (x1 : Int), lNone.pre (x0, x1, ()) = true → ∃ m, lNone.go  m x0 x1 = some (lNone.res (x0, x1, ()), [])) : SpecOK Try.prog 6 lNone.sp :=
  lNone.mkR fun x0 x1 hx => (H x0 x1 hx).elim fun _ hm => lNone.ret  hs  x0 x1 hm

end Go.Proofs.Ytcjlebkfekfkbaa
