/-
  Steps of the bodies, from checkpoint to checkpoint (printed by wip/VE/mk2.py).
-/
import Derived.Test.YtlbdljebmjajdaaT
import Derived.Test.YtlbdljebmjajdaaBA
namespace Go.Proofs.Ytlbdljebmjajdaa
open Go VE

/-! ### triage/host.word -/
abbrev word.ps : List AK := [.d false .str]
def word.pre : ElA word.ps → Bool := fun (x : ByteArray × Unit) => fits .str (x.1) && (true)
def word.res : ElA word.ps → IV := fun (x : ByteArray × Unit) => (fun s => vb (wordB s)) x.1
def word.sp : ISpec := spOf word.ps word.pre word.res
abbrev word.OK : Prop := SpecOK Try.prog 43 word.sp
noncomputable def word.body : Code := bodyOf Try.f43
noncomputable def word.rs : List ResultVar := Try.f43.results.toList
def word.live : List (Nat × Live) := [(2, ⟨[(0, .plain), (6, .plain), (7, .plain)], []⟩)]
noncomputable def word.specs  : List (Nat × (List Bool × ISpec)) := []
noncomputable def word.ospecs  : List (Nat × OS) := []
noncomputable def word.cfg  : Cfg := ⟨lkp tab, lkp (word.specs ), lkp word.live, ⟨lkp (word.ospecs ), [], none, false, []⟩⟩
noncomputable def word.l1  (m : Nat) (x0 : ByteArray) (x1 : Int) (x2 : Int) : R := run (word.cfg ) 48 word.rs m ((todoR 2 word.body []).getD []) ⟨ofList (.c .junk) [(0, (.c (.v (.string x0)))), (6, (.c (.v (.int .i64 x1)))), (7, (.c (.v (.int .i64 x2))))], ofList none [], ofList false []⟩
noncomputable def word.go  (m : Nat) (x0 : ByteArray) : R := run (word.cfg ) 48 word.rs m [.code word.body] (enter (ivA word.ps (x0, ())))
theorem word.start  (m : Nat) (x0 : ByteArray) : word.go  (m + 1) x0 =
  word.l1  m x0 ((ByteArray.size x0) : Int) (0 : Int) := by kernel_rfl
theorem word.s1  (m : Nat) (x0 : ByteArray) (x1 : Int) (x2 : Int) : word.l1  (m + 1) x0 x1 x2 =
  cond (decide (x2 < x1)) (
   test (decide ((0 : Int) ≤ x2)) (
    test (decide (x2 < ((ByteArray.size x0) : Int))) (
     cond (decide ((byteAt x0 x2) < (97 : Int))) (
      cond (decide ((byteAt x0 x2) < (48 : Int))) (
       cond (bne (byteAt x0 x2) (45 : Int)) (
        cond (bne (byteAt x0 x2) (46 : Int)) (
         some ((.c (.v (.bool false))), [])) (
         word.l1  m x0 x1 (IntKind.i64.wrap (x2 + (1 : Int))))) (
        word.l1  m x0 x1 (IntKind.i64.wrap (x2 + (1 : Int))))) (
       cond (decide ((byteAt x0 x2) > (57 : Int))) (
        cond (bne (byteAt x0 x2) (45 : Int)) (
         cond (bne (byteAt x0 x2) (46 : Int)) (
          some ((.c (.v (.bool false))), [])) (
          word.l1  m x0 x1 (IntKind.i64.wrap (x2 + (1 : Int))))) (
         word.l1  m x0 x1 (IntKind.i64.wrap (x2 + (1 : Int))))) (
        word.l1  m x0 x1 (IntKind.i64.wrap (x2 + (1 : Int)))))) (
      cond (decide ((byteAt x0 x2) > (122 : Int))) (
       cond (decide ((byteAt x0 x2) < (48 : Int))) (
        cond (bne (byteAt x0 x2) (45 : Int)) (
         cond (bne (byteAt x0 x2) (46 : Int)) (
          some ((.c (.v (.bool false))), [])) (
          word.l1  m x0 x1 (IntKind.i64.wrap (x2 + (1 : Int))))) (
         word.l1  m x0 x1 (IntKind.i64.wrap (x2 + (1 : Int))))) (
        cond (decide ((byteAt x0 x2) > (57 : Int))) (
         cond (bne (byteAt x0 x2) (45 : Int)) (
          cond (bne (byteAt x0 x2) (46 : Int)) (
           some ((.c (.v (.bool false))), [])) (
           word.l1  m x0 x1 (IntKind.i64.wrap (x2 + (1 : Int))))) (
          word.l1  m x0 x1 (IntKind.i64.wrap (x2 + (1 : Int))))) (
         word.l1  m x0 x1 (IntKind.i64.wrap (x2 + (1 : Int)))))) (
       word.l1  m x0 x1 (IntKind.i64.wrap (x2 + (1 : Int)))))))) (
   cond (decide (((ByteArray.size x0) : Int) ≥ (1 : Int))) (
    cond (decide (((ByteArray.size x0) : Int) ≤ (12 : Int))) (
     some ((.c (.v (.bool (Bool.not ((ByteArray.toList x0) == (ByteArray.toList (⟨#[45]⟩ : ByteArray))))))), [])) (
     some ((.c (.v (.bool false))), []))) (
    some ((.c (.v (.bool false))), []))) := by kernel_rfl
theorem word.run_eq  (m : Nat) (x0 : ByteArray) : run (word.cfg ) Try.f43.ntmps Try.f43.results.toList m [.code (bodyOf Try.f43)] (enter (ivA word.ps (x0, ()))) = word.go  m x0 := by kernel_rfl
theorem word.ret  (hs : SpecsOK Try.prog (word.specs ))  (x0 : ByteArray) {m : Nat} {r : IV} (h : word.go  m x0 = some (r, [])) : VE.Returns Try.prog 43 (ivA word.ps (x0, ())) r :=
  returns_of_run (cfg := word.cfg ) (cfgOK_of mixed tab_ok hs .nil) rfl Try.func43 (body_some (by kernel_rfl)) (Nat.le_of_ble_eq_true (by kernel_rfl)) ((word.run_eq  m x0).trans h)
abbrev word.Law : Prop := ∀ (x0 : ByteArray), word.pre (x0, ()) = true → VE.Returns Try.prog 43 (ivA word.ps (x0, ())) (word.res (x0, ()))
theorem word.mkR (H : ∀ (x0 : ByteArray), word.pre (x0, ()) = true → VE.Returns Try.prog 43 (ivA word.ps (x0, ())) (word.res (x0, ()))) : SpecOK Try.prog 43 word.sp :=
  specOf_ret Try.func43 (by kernel_rfl) (by kernel_rfl) fun (x : ByteArray × Unit) hx => H (x.1) hx
theorem word.mk  (hs : SpecsOK Try.prog (word.specs ))  (H : ∀ (x0 : ByteArray), word.pre (x0, ()) = true → ∃ m, word.go  m x0 = some (word.res (x0, ()), [])) : SpecOK Try.prog 43 word.sp :=
  word.mkR fun x0 hx => (H x0 hx).elim fun _ hm => word.ret  hs  x0 hm

/-! ### triage/triageref1.Word -/
abbrev wordR.ps : List AK := [.d false .str]
def wordR.pre : ElA wordR.ps → Bool := fun (x : ByteArray × Unit) => fits .str (x.1) && (true)
def wordR.res : ElA wordR.ps → IV := fun (x : ByteArray × Unit) => (fun s => vb (wordB s)) x.1
def wordR.sp : ISpec := spOf wordR.ps wordR.pre wordR.res
abbrev wordR.OK : Prop := SpecOK Try.prog 26 wordR.sp
noncomputable def wordR.body : Code := bodyOf Try.f26
noncomputable def wordR.rs : List ResultVar := Try.f26.results.toList
def wordR.live : List (Nat × Live) := [(4, ⟨[(0, .plain), (18, .plain), (19, .plain)], []⟩)]
noncomputable def wordR.specs  : List (Nat × (List Bool × ISpec)) := []
noncomputable def wordR.ospecs  : List (Nat × OS) := []
noncomputable def wordR.cfg  : Cfg := ⟨lkp tab, lkp (wordR.specs ), lkp wordR.live, ⟨lkp (wordR.ospecs ), [], none, false, []⟩⟩
noncomputable def wordR.l1  (m : Nat) (x0 : ByteArray) (x1 : Int) (x2 : Int) : R := run (wordR.cfg ) 48 wordR.rs m ((todoR 4 wordR.body []).getD []) ⟨ofList (.c .junk) [(0, (.c (.v (.string x0)))), (18, (.c (.v (.int .i64 x1)))), (19, (.c (.v (.int .i64 x2))))], ofList none [], ofList false []⟩
noncomputable def wordR.go  (m : Nat) (x0 : ByteArray) : R := run (wordR.cfg ) 48 wordR.rs m [.code wordR.body] (enter (ivA wordR.ps (x0, ())))
theorem wordR.start  (m : Nat) (x0 : ByteArray) : wordR.go  (m + 1) x0 =
  cond (decide (((ByteArray.size x0) : Int) < (1 : Int))) (
   some ((.c (.v (.bool false))), [])) (
   cond (decide (((ByteArray.size x0) : Int) > (12 : Int))) (
    some ((.c (.v (.bool false))), [])) (
    cond ((ByteArray.toList x0) == (ByteArray.toList (⟨#[45]⟩ : ByteArray))) (
     some ((.c (.v (.bool false))), [])) (
     wordR.l1  m x0 ((ByteArray.size x0) : Int) (0 : Int)))) := by kernel_rfl
theorem wordR.s1  (m : Nat) (x0 : ByteArray) (x1 : Int) (x2 : Int) : wordR.l1  (m + 1) x0 x1 x2 =
  cond (decide (x2 < x1)) (
   test (decide ((0 : Int) ≤ x2)) (
    test (decide (x2 < ((ByteArray.size x0) : Int))) (
     cond (decide ((byteAt x0 x2) < (97 : Int))) (
      cond (decide ((byteAt x0 x2) < (48 : Int))) (
       cond (bne (byteAt x0 x2) (45 : Int)) (
        cond (bne (byteAt x0 x2) (46 : Int)) (
         some ((.c (.v (.bool false))), [])) (
         wordR.l1  m x0 x1 (IntKind.i64.wrap (x2 + (1 : Int))))) (
        wordR.l1  m x0 x1 (IntKind.i64.wrap (x2 + (1 : Int))))) (
       cond (decide ((byteAt x0 x2) > (57 : Int))) (
        cond (bne (byteAt x0 x2) (45 : Int)) (
         cond (bne (byteAt x0 x2) (46 : Int)) (
          some ((.c (.v (.bool false))), [])) (
          wordR.l1  m x0 x1 (IntKind.i64.wrap (x2 + (1 : Int))))) (
         wordR.l1  m x0 x1 (IntKind.i64.wrap (x2 + (1 : Int))))) (
        wordR.l1  m x0 x1 (IntKind.i64.wrap (x2 + (1 : Int)))))) (
      cond (decide ((byteAt x0 x2) > (122 : Int))) (
       cond (decide ((byteAt x0 x2) < (48 : Int))) (
        cond (bne (byteAt x0 x2) (45 : Int)) (
         cond (bne (byteAt x0 x2) (46 : Int)) (
          some ((.c (.v (.bool false))), [])) (
          wordR.l1  m x0 x1 (IntKind.i64.wrap (x2 + (1 : Int))))) (
         wordR.l1  m x0 x1 (IntKind.i64.wrap (x2 + (1 : Int))))) (
        cond (decide ((byteAt x0 x2) > (57 : Int))) (
         cond (bne (byteAt x0 x2) (45 : Int)) (
          cond (bne (byteAt x0 x2) (46 : Int)) (
           some ((.c (.v (.bool false))), [])) (
           wordR.l1  m x0 x1 (IntKind.i64.wrap (x2 + (1 : Int))))) (
          wordR.l1  m x0 x1 (IntKind.i64.wrap (x2 + (1 : Int))))) (
         wordR.l1  m x0 x1 (IntKind.i64.wrap (x2 + (1 : Int)))))) (
       wordR.l1  m x0 x1 (IntKind.i64.wrap (x2 + (1 : Int)))))))) (
   some ((.c (.v (.bool true))), [])) := by kernel_rfl
theorem wordR.run_eq  (m : Nat) (x0 : ByteArray) : run (wordR.cfg ) Try.f26.ntmps Try.f26.results.toList m [.code (bodyOf Try.f26)] (enter (ivA wordR.ps (x0, ()))) = wordR.go  m x0 := by kernel_rfl
theorem wordR.ret  (hs : SpecsOK Try.prog (wordR.specs ))  (x0 : ByteArray) {m : Nat} {r : IV} (h : wordR.go  m x0 = some (r, [])) : VE.Returns Try.prog 26 (ivA wordR.ps (x0, ())) r :=
  returns_of_run (cfg := wordR.cfg ) (cfgOK_of mixed tab_ok hs .nil) rfl Try.func26 (body_some (by kernel_rfl)) (Nat.le_of_ble_eq_true (by kernel_rfl)) ((wordR.run_eq  m x0).trans h)
abbrev wordR.Law : Prop := ∀ (x0 : ByteArray), wordR.pre (x0, ()) = true → VE.Returns Try.prog 26 (ivA wordR.ps (x0, ())) (wordR.res (x0, ()))
theorem wordR.mkR (H : ∀ (x0 : ByteArray), wordR.pre (x0, ()) = true → VE.Returns Try.prog 26 (ivA wordR.ps (x0, ())) (wordR.res (x0, ()))) : SpecOK Try.prog 26 wordR.sp :=
  specOf_ret Try.func26 (by kernel_rfl) (by kernel_rfl) fun (x : ByteArray × Unit) hx => H (x.1) hx
theorem wordR.mk  (hs : SpecsOK Try.prog (wordR.specs ))  (H : ∀ (x0 : ByteArray), wordR.pre (x0, ()) = true → ∃ m, wordR.go  m x0 = some (wordR.res (x0, ()), [])) : SpecOK Try.prog 26 wordR.sp :=
  wordR.mkR fun x0 hx => (H x0 hx).elim fun _ hm => wordR.ret  hs  x0 hm

/-! ### triage/host.notWords -/
abbrev notWords.ps : List AK := [.d true TPair]
def notWords.pre : ElA notWords.ps → Bool := fun (x : (El TPair) × Unit) => fits TPair (x.1) && (true)
def notWords.res : ElA notWords.ps → IV := fun (x : (El TPair) × Unit) => (fun p => vb (nwB p)) x.1
def notWords.sp : ISpec := spOf notWords.ps notWords.pre notWords.res
abbrev notWords.OK : Prop := SpecOK Try.prog 50 notWords.sp
noncomputable def notWords.body : Code := bodyOf Try.f50
noncomputable def notWords.rs : List ResultVar := Try.f50.results.toList
def notWords.live : List (Nat × Live) := []
noncomputable def notWords.specs  : List (Nat × (List Bool × ISpec)) := [(43, ([], word.sp))]
noncomputable def notWords.ospecs  : List (Nat × OS) := []
noncomputable def notWords.cfg  : Cfg := ⟨lkp tab, lkp (notWords.specs ), lkp notWords.live, ⟨lkp (notWords.ospecs ), [], none, false, []⟩⟩
noncomputable def notWords.go  (m : Nat) (x0 : (El TPair)) : R := run (notWords.cfg ) 13 notWords.rs m [.code notWords.body] (enter (ivA notWords.ps (x0, ())))
theorem notWords.start  (m : Nat) (x0 : (El TPair)) : notWords.go  (m + 1) x0 =
  test (word.pre (x0.1, Unit.unit)) (
   cond (Bool.not (wordB x0.1)) (
    some ((.c (.v (.bool true))), [])) (
    test (word.pre (x0.2, Unit.unit)) (
     some ((.c (.v (.bool (Bool.not (wordB x0.2))))), [])))) := by kernel_rfl
theorem notWords.run_eq  (m : Nat) (x0 : (El TPair)) : run (notWords.cfg ) Try.f50.ntmps Try.f50.results.toList m [.code (bodyOf Try.f50)] (enter (ivA notWords.ps (x0, ()))) = notWords.go  m x0 := by kernel_rfl
theorem notWords.ret  (hs : SpecsOK Try.prog (notWords.specs ))  (x0 : (El TPair)) {m : Nat} {r : IV} (h : notWords.go  m x0 = some (r, [])) : VE.Returns Try.prog 50 (ivA notWords.ps (x0, ())) r :=
  returns_of_run (cfg := notWords.cfg ) (cfgOK_of mixed tab_ok hs .nil) rfl Try.func50 (body_some (by kernel_rfl)) (Nat.le_of_ble_eq_true (by kernel_rfl)) ((notWords.run_eq  m x0).trans h)
abbrev notWords.Law : Prop := ∀ (x0 : (El TPair)), notWords.pre (x0, ()) = true → VE.Returns Try.prog 50 (ivA notWords.ps (x0, ())) (notWords.res (x0, ()))
theorem notWords.mkR (H : ∀ (x0 : (El TPair)), notWords.pre (x0, ()) = true → VE.Returns Try.prog 50 (ivA notWords.ps (x0, ())) (notWords.res (x0, ()))) : SpecOK Try.prog 50 notWords.sp :=
  specOf_ret Try.func50 (by kernel_rfl) (by kernel_rfl) fun (x : (El TPair) × Unit) hx => H (x.1) hx
theorem notWords.mk  (hs : SpecsOK Try.prog (notWords.specs ))  (H : ∀ (x0 : (El TPair)), notWords.pre (x0, ()) = true → ∃ m, notWords.go  m x0 = some (notWords.res (x0, ()), [])) : SpecOK Try.prog 50 notWords.sp :=
  notWords.mkR fun x0 hx => (H x0 hx).elim fun _ hm => notWords.ret  hs  x0 hm

/-! ### slices.IndexFunc(()triage/api.Pair,triage/api.Pair) -/
abbrev ixNW.ps : List AK := [.d false (.sl TPair), .f 50 []]
def ixNW.pre : ElA ixNW.ps → Bool := fun (x : (List (El TPair)) × Unit × Unit) => fits (.sl TPair) (x.1) && (true)
def ixNW.res : ElA ixNW.ps → IV := fun (x : (List (El TPair)) × Unit × Unit) => (fun l _ => vi .i64 (ixOf nwB l)) x.1 x.2.1
def ixNW.sp : ISpec := spOf ixNW.ps ixNW.pre ixNW.res
abbrev ixNW.OK : Prop := SpecOK Try.prog 52 ixNW.sp
noncomputable def ixNW.body : Code := bodyOf Try.f52
noncomputable def ixNW.rs : List ResultVar := Try.f52.results.toList
def ixNW.live : List (Nat × Live) := [(2, ⟨[(0, .sl TPair), (1, .plain), (7, .plain), (8, .plain)], []⟩)]
noncomputable def ixNW.specs  : List (Nat × (List Bool × ISpec)) := [(50, ([], notWords.sp))]
noncomputable def ixNW.ospecs  : List (Nat × OS) := []
noncomputable def ixNW.cfg  : Cfg := ⟨lkp tab, lkp (ixNW.specs ), lkp ixNW.live, ⟨lkp (ixNW.ospecs ), [], none, false, []⟩⟩
noncomputable def ixNW.l1  (m : Nat) (x0 : List (El TPair)) (x1 : Int) (x2 : Int) : R := run (ixNW.cfg ) 19 ixNW.rs m ((todoR 2 ixNW.body []).getD []) ⟨ofList (.c .junk) [(0, (.c (.sl TPair x0))), (1, (.c (.fn 50 []))), (7, (.c (.v (.int .i64 x1)))), (8, (.c (.v (.int .i64 x2))))], ofList none [], ofList false []⟩
noncomputable def ixNW.go  (m : Nat) (x0 : (List (El TPair))) (x1 : Unit) : R := run (ixNW.cfg ) 19 ixNW.rs m [.code ixNW.body] (enter (ivA ixNW.ps (x0, x1, ())))
theorem ixNW.start  (m : Nat) (x0 : (List (El TPair))) (x1 : Unit) : ixNW.go  (m + 1) x0 x1 =
  ixNW.l1  m x0 ((List.length x0) : Int) (0 : Int) := by kernel_rfl
theorem ixNW.s1  (m : Nat) (x0 : List (El TPair)) (x1 : Int) (x2 : Int) : ixNW.l1  (m + 1) x0 x1 x2 =
  cond (decide (x2 < x1)) (
   test (decide ((0 : Int) ≤ x2)) (
    test (decide (x2 < ((List.length x0) : Int))) (
     test (notWords.pre (((rdEl TPair x0 (Int.toNat x2))), Unit.unit)) (
      cond (nwB ((rdEl TPair x0 (Int.toNat x2)))) (
       some ((.c (.v (.int .i64 x2))), [])) (
       ixNW.l1  m x0 x1 (IntKind.i64.wrap (x2 + (1 : Int)))))))) (
   some ((.c (.v (.int .i64 (-(1 : Int))))), [])) := by kernel_rfl
theorem ixNW.run_eq  (m : Nat) (x0 : (List (El TPair))) (x1 : Unit) : run (ixNW.cfg ) Try.f52.ntmps Try.f52.results.toList m [.code (bodyOf Try.f52)] (enter (ivA ixNW.ps (x0, x1, ()))) = ixNW.go  m x0 x1 := by kernel_rfl
theorem ixNW.ret  (hs : SpecsOK Try.prog (ixNW.specs ))  (x0 : (List (El TPair))) (x1 : Unit) {m : Nat} {r : IV} (h : ixNW.go  m x0 x1 = some (r, [])) : VE.Returns Try.prog 52 (ivA ixNW.ps (x0, x1, ())) r :=
  returns_of_run (cfg := ixNW.cfg ) (cfgOK_of mixed tab_ok hs .nil) rfl Try.func52 (body_some (by kernel_rfl)) (Nat.le_of_ble_eq_true (by kernel_rfl)) ((ixNW.run_eq  m x0 x1).trans h)
abbrev ixNW.Law : Prop := ∀ (x0 : (List (El TPair))) (x1 : Unit), ixNW.pre (x0, x1, ()) = true → VE.Returns Try.prog 52 (ivA ixNW.ps (x0, x1, ())) (ixNW.res (x0, x1, ()))
theorem ixNW.mkR (H : ∀ (x0 : (List (El TPair))) (x1 : Unit), ixNW.pre (x0, x1, ()) = true → VE.Returns Try.prog 52 (ivA ixNW.ps (x0, x1, ())) (ixNW.res (x0, x1, ()))) : SpecOK Try.prog 52 ixNW.sp :=
  specOf_ret Try.func52 (by kernel_rfl) (by kernel_rfl) fun (x : (List (El TPair)) × Unit × Unit) hx => H (x.1) (x.2.1) hx
theorem ixNW.mk  (hs : SpecsOK Try.prog (ixNW.specs ))  (H : ∀ (x0 : (List (El TPair))) (x1 : Unit), ixNW.pre (x0, x1, ()) = true → ∃ m, ixNW.go  m x0 x1 = some (ixNW.res (x0, x1, ()), [])) : SpecOK Try.prog 52 ixNW.sp :=
  ixNW.mkR fun x0 x1 hx => (H x0 x1 hx).elim fun _ hm => ixNW.ret  hs  x0 x1 hm

/-! ### slices.ContainsFunc(()triage/api.Pair,triage/api.Pair) -/
abbrev cfNW.ps : List AK := [.d false (.sl TPair), .f 50 []]
def cfNW.pre : ElA cfNW.ps → Bool := fun (x : (List (El TPair)) × Unit × Unit) => fits (.sl TPair) (x.1) && (true)
def cfNW.res : ElA cfNW.ps → IV := fun (x : (List (El TPair)) × Unit × Unit) => (fun l _ => vb (List.any l nwB)) x.1 x.2.1
def cfNW.sp : ISpec := spOf cfNW.ps cfNW.pre cfNW.res
abbrev cfNW.OK : Prop := SpecOK Try.prog 49 cfNW.sp
noncomputable def cfNW.body : Code := bodyOf Try.f49
noncomputable def cfNW.rs : List ResultVar := Try.f49.results.toList
def cfNW.live : List (Nat × Live) := []
noncomputable def cfNW.specs  : List (Nat × (List Bool × ISpec)) := [(52, ([], ixNW.sp))]
noncomputable def cfNW.ospecs  : List (Nat × OS) := []
noncomputable def cfNW.cfg  : Cfg := ⟨lkp tab, lkp (cfNW.specs ), lkp cfNW.live, ⟨lkp (cfNW.ospecs ), [], none, false, []⟩⟩
noncomputable def cfNW.go  (m : Nat) (x0 : (List (El TPair))) (x1 : Unit) : R := run (cfNW.cfg ) 9 cfNW.rs m [.code cfNW.body] (enter (ivA cfNW.ps (x0, x1, ())))
theorem cfNW.start  (m : Nat) (x0 : (List (El TPair))) (x1 : Unit) : cfNW.go  (m + 1) x0 x1 =
  test (ixNW.pre (x0, (Unit.unit, Unit.unit))) (
   some ((.c (.v (.bool (decide ((ixOf nwB x0) ≥ (0 : Int)))))), [])) := by kernel_rfl
theorem cfNW.run_eq  (m : Nat) (x0 : (List (El TPair))) (x1 : Unit) : run (cfNW.cfg ) Try.f49.ntmps Try.f49.results.toList m [.code (bodyOf Try.f49)] (enter (ivA cfNW.ps (x0, x1, ()))) = cfNW.go  m x0 x1 := by kernel_rfl
theorem cfNW.ret  (hs : SpecsOK Try.prog (cfNW.specs ))  (x0 : (List (El TPair))) (x1 : Unit) {m : Nat} {r : IV} (h : cfNW.go  m x0 x1 = some (r, [])) : VE.Returns Try.prog 49 (ivA cfNW.ps (x0, x1, ())) r :=
  returns_of_run (cfg := cfNW.cfg ) (cfgOK_of mixed tab_ok hs .nil) rfl Try.func49 (body_some (by kernel_rfl)) (Nat.le_of_ble_eq_true (by kernel_rfl)) ((cfNW.run_eq  m x0 x1).trans h)
abbrev cfNW.Law : Prop := ∀ (x0 : (List (El TPair))) (x1 : Unit), cfNW.pre (x0, x1, ()) = true → VE.Returns Try.prog 49 (ivA cfNW.ps (x0, x1, ())) (cfNW.res (x0, x1, ()))
theorem cfNW.mkR (H : ∀ (x0 : (List (El TPair))) (x1 : Unit), cfNW.pre (x0, x1, ()) = true → VE.Returns Try.prog 49 (ivA cfNW.ps (x0, x1, ())) (cfNW.res (x0, x1, ()))) : SpecOK Try.prog 49 cfNW.sp :=
  specOf_ret Try.func49 (by kernel_rfl) (by kernel_rfl) fun (x : (List (El TPair)) × Unit × Unit) hx => H (x.1) (x.2.1) hx
theorem cfNW.mk  (hs : SpecsOK Try.prog (cfNW.specs ))  (H : ∀ (x0 : (List (El TPair))) (x1 : Unit), cfNW.pre (x0, x1, ()) = true → ∃ m, cfNW.go  m x0 x1 = some (cfNW.res (x0, x1, ()), [])) : SpecOK Try.prog 49 cfNW.sp :=
  cfNW.mkR fun x0 x1 hx => (H x0 x1 hx).elim fun _ hm => cfNW.ret  hs  x0 x1 hm

/-! ### triage/host.MaySubset -/
abbrev maySub.ps : List AK := [.d false (.sl TPair)]
def maySub.pre : ElA maySub.ps → Bool := fun (x : (List (El TPair)) × Unit) => fits (.sl TPair) (x.1) && (true)
def maySub.res : ElA maySub.ps → IV := fun (x : (List (El TPair)) × Unit) => (fun l => vb (maySubB l)) x.1
def maySub.sp : ISpec := spOf maySub.ps maySub.pre maySub.res
abbrev maySub.OK : Prop := SpecOK Try.prog 44 maySub.sp
noncomputable def maySub.body : Code := bodyOf Try.f44
noncomputable def maySub.rs : List ResultVar := Try.f44.results.toList
def maySub.live : List (Nat × Live) := []
noncomputable def maySub.specs  : List (Nat × (List Bool × ISpec)) := [(49, ([], cfNW.sp))]
noncomputable def maySub.ospecs  : List (Nat × OS) := []
noncomputable def maySub.cfg  : Cfg := ⟨lkp tab, lkp (maySub.specs ), lkp maySub.live, ⟨lkp (maySub.ospecs ), [], none, false, []⟩⟩
noncomputable def maySub.go  (m : Nat) (x0 : (List (El TPair))) : R := run (maySub.cfg ) 11 maySub.rs m [.code maySub.body] (enter (ivA maySub.ps (x0, ())))
theorem maySub.start  (m : Nat) (x0 : (List (El TPair))) : maySub.go  (m + 1) x0 =
  cond (decide (((List.length x0) : Int) ≤ (6 : Int))) (
   test (cfNW.pre (x0, (Unit.unit, Unit.unit))) (
    some ((.c (.v (.bool (Bool.not (List.any x0 nwB))))), []))) (
   some ((.c (.v (.bool false))), [])) := by kernel_rfl
theorem maySub.run_eq  (m : Nat) (x0 : (List (El TPair))) : run (maySub.cfg ) Try.f44.ntmps Try.f44.results.toList m [.code (bodyOf Try.f44)] (enter (ivA maySub.ps (x0, ()))) = maySub.go  m x0 := by kernel_rfl
theorem maySub.ret  (hs : SpecsOK Try.prog (maySub.specs ))  (x0 : (List (El TPair))) {m : Nat} {r : IV} (h : maySub.go  m x0 = some (r, [])) : VE.Returns Try.prog 44 (ivA maySub.ps (x0, ())) r :=
  returns_of_run (cfg := maySub.cfg ) (cfgOK_of mixed tab_ok hs .nil) rfl Try.func44 (body_some (by kernel_rfl)) (Nat.le_of_ble_eq_true (by kernel_rfl)) ((maySub.run_eq  m x0).trans h)
abbrev maySub.Law : Prop := ∀ (x0 : (List (El TPair))), maySub.pre (x0, ()) = true → VE.Returns Try.prog 44 (ivA maySub.ps (x0, ())) (maySub.res (x0, ()))
theorem maySub.mkR (H : ∀ (x0 : (List (El TPair))), maySub.pre (x0, ()) = true → VE.Returns Try.prog 44 (ivA maySub.ps (x0, ())) (maySub.res (x0, ()))) : SpecOK Try.prog 44 maySub.sp :=
  specOf_ret Try.func44 (by kernel_rfl) (by kernel_rfl) fun (x : (List (El TPair)) × Unit) hx => H (x.1) hx
theorem maySub.mk  (hs : SpecsOK Try.prog (maySub.specs ))  (H : ∀ (x0 : (List (El TPair))), maySub.pre (x0, ()) = true → ∃ m, maySub.go  m x0 = some (maySub.res (x0, ()), [])) : SpecOK Try.prog 44 maySub.sp :=
  maySub.mkR fun x0 hx => (H x0 hx).elim fun _ hm => maySub.ret  hs  x0 hm

/-! ### triage/triageref1.MaySubset -/
abbrev maySubR.ps : List AK := [.d false (.sl TPair)]
def maySubR.pre : ElA maySubR.ps → Bool := fun (x : (List (El TPair)) × Unit) => fits (.sl TPair) (x.1) && (true)
def maySubR.res : ElA maySubR.ps → IV := fun (x : (List (El TPair)) × Unit) => (fun l => vb (maySubB l)) x.1
def maySubR.sp : ISpec := spOf maySubR.ps maySubR.pre maySubR.res
abbrev maySubR.OK : Prop := SpecOK Try.prog 27 maySubR.sp
noncomputable def maySubR.body : Code := bodyOf Try.f27
noncomputable def maySubR.rs : List ResultVar := Try.f27.results.toList
def maySubR.live : List (Nat × Live) := [(2, ⟨[(0, .sl TPair), (5, .sl TPair), (6, .plain), (7, .plain)], []⟩)]
noncomputable def maySubR.specs  : List (Nat × (List Bool × ISpec)) := [(26, ([], wordR.sp))]
noncomputable def maySubR.ospecs  : List (Nat × OS) := []
noncomputable def maySubR.cfg  : Cfg := ⟨lkp tab, lkp (maySubR.specs ), lkp maySubR.live, ⟨lkp (maySubR.ospecs ), [], none, false, []⟩⟩
noncomputable def maySubR.l1  (m : Nat) (x0 : List (El TPair)) (x1 : List (El TPair)) (x2 : Int) (x3 : Int) : R := run (maySubR.cfg ) 25 maySubR.rs m ((todoR 2 maySubR.body []).getD []) ⟨ofList (.c .junk) [(0, (.c (.sl TPair x0))), (5, (.c (.sl TPair x1))), (6, (.c (.v (.int .i64 x2)))), (7, (.c (.v (.int .i64 x3))))], ofList none [], ofList false []⟩
noncomputable def maySubR.go  (m : Nat) (x0 : (List (El TPair))) : R := run (maySubR.cfg ) 25 maySubR.rs m [.code maySubR.body] (enter (ivA maySubR.ps (x0, ())))
theorem maySubR.start  (m : Nat) (x0 : (List (El TPair))) : maySubR.go  (m + 1) x0 =
  maySubR.l1  m x0 x0 ((List.length x0) : Int) (0 : Int) := by kernel_rfl
theorem maySubR.s1  (m : Nat) (x0 : List (El TPair)) (x1 : List (El TPair)) (x2 : Int) (x3 : Int) : maySubR.l1  (m + 1) x0 x1 x2 x3 =
  cond (decide (x3 < x2)) (
   test (decide ((0 : Int) ≤ x3)) (
    test (decide (x3 < ((List.length x1) : Int))) (
     test (wordR.pre (((rdEl TPair x1 (Int.toNat x3))).1, Unit.unit)) (
      cond (Bool.not (wordB ((rdEl TPair x1 (Int.toNat x3))).1)) (
       some ((.c (.v (.bool false))), [])) (
       test (wordR.pre (((rdEl TPair x1 (Int.toNat x3))).2, Unit.unit)) (
        cond (Bool.not (wordB ((rdEl TPair x1 (Int.toNat x3))).2)) (
         some ((.c (.v (.bool false))), [])) (
         maySubR.l1  m x0 x1 x2 (IntKind.i64.wrap (x3 + (1 : Int)))))))))) (
   some ((.c (.v (.bool (decide (((List.length x0) : Int) ≤ (6 : Int)))))), [])) := by kernel_rfl
theorem maySubR.run_eq  (m : Nat) (x0 : (List (El TPair))) : run (maySubR.cfg ) Try.f27.ntmps Try.f27.results.toList m [.code (bodyOf Try.f27)] (enter (ivA maySubR.ps (x0, ()))) = maySubR.go  m x0 := by kernel_rfl
theorem maySubR.ret  (hs : SpecsOK Try.prog (maySubR.specs ))  (x0 : (List (El TPair))) {m : Nat} {r : IV} (h : maySubR.go  m x0 = some (r, [])) : VE.Returns Try.prog 27 (ivA maySubR.ps (x0, ())) r :=
  returns_of_run (cfg := maySubR.cfg ) (cfgOK_of mixed tab_ok hs .nil) rfl Try.func27 (body_some (by kernel_rfl)) (Nat.le_of_ble_eq_true (by kernel_rfl)) ((maySubR.run_eq  m x0).trans h)
abbrev maySubR.Law : Prop := ∀ (x0 : (List (El TPair))), maySubR.pre (x0, ()) = true → VE.Returns Try.prog 27 (ivA maySubR.ps (x0, ())) (maySubR.res (x0, ()))
theorem maySubR.mkR (H : ∀ (x0 : (List (El TPair))), maySubR.pre (x0, ()) = true → VE.Returns Try.prog 27 (ivA maySubR.ps (x0, ())) (maySubR.res (x0, ()))) : SpecOK Try.prog 27 maySubR.sp :=
  specOf_ret Try.func27 (by kernel_rfl) (by kernel_rfl) fun (x : (List (El TPair)) × Unit) hx => H (x.1) hx
theorem maySubR.mk  (hs : SpecsOK Try.prog (maySubR.specs ))  (H : ∀ (x0 : (List (El TPair))), maySubR.pre (x0, ()) = true → ∃ m, maySubR.go  m x0 = some (maySubR.res (x0, ()), [])) : SpecOK Try.prog 27 maySubR.sp :=
  maySubR.mkR fun x0 hx => (H x0 hx).elim fun _ hm => maySubR.ret  hs  x0 hm

/-! ### triage/host.May -/
abbrev may.ps : List AK := [.d true THost]
def may.pre : ElA may.ps → Bool := fun (x : (El THost) × Unit) => fits THost (x.1) && (true)
def may.res : ElA may.ps → IV := fun (x : (El THost) × Unit) => (fun h => vb (mayB h)) x.1
def may.sp : ISpec := spOf may.ps may.pre may.res
abbrev may.OK : Prop := SpecOK Try.prog 28 may.sp
noncomputable def may.body : Code := bodyOf Try.f28
noncomputable def may.rs : List ResultVar := Try.f28.results.toList
def may.live : List (Nat × Live) := [(2, ⟨[(1, .plain), (3, .plain)], [(1, [])]⟩)]
noncomputable def may.specs  : List (Nat × (List Bool × ISpec)) := [(43, ([], word.sp)), (44, ([], maySub.sp))]
noncomputable def may.ospecs  : List (Nat × OS) := []
noncomputable def may.cfg  : Cfg := ⟨lkp tab, lkp (may.specs ), lkp may.live, ⟨lkp (may.ospecs ), [], none, false, []⟩⟩
noncomputable def may.l1  (m : Nat) (x0 : Int) (x1 : Int) (x2 : ByteArray) (x3 : Int) (x4 : ByteArray) (x5 : Int) (x6 : List (El TPair)) : R := run (may.cfg ) 73 may.rs m ((todoR 2 may.body []).getD []) ⟨ofList (.c .junk) [(1, (.c (.ref 1 0))), (3, (.c (.v (.int .i64 x0))))], ofList none [(1, some (.cells 34 [(.v (.int .i64 x1)), (.v (.string x2)), (.v (.int .i64 x3)), (.v (.string x4)), (.v (.int .i64 x5)), (.sl TPair x6)]))], ofList false [(1, true)]⟩
noncomputable def may.go  (m : Nat) (x0 : (El THost)) : R := run (may.cfg ) 73 may.rs m [.code may.body] (enter (ivA may.ps (x0, ())))
theorem may.start  (m : Nat) (x0 : (El THost)) : may.go  (m + 1) x0 =
  may.l1  m (1 : Int) x0.1 x0.2.1 x0.2.2.1 x0.2.2.2.1 x0.2.2.2.2.1 x0.2.2.2.2.2 := by kernel_rfl
theorem may.s1  (m : Nat) (x0 : Int) (x1 : Int) (x2 : ByteArray) (x3 : Int) (x4 : ByteArray) (x5 : Int) (x6 : List (El TPair)) : may.l1  (m + 1) x0 x1 x2 x3 x4 x5 x6 =
  cond (decide (x0 < ((List.length x6) : Int))) (
   test (decide ((0 : Int) ≤ (IntKind.i64.wrap (x0 - (1 : Int))))) (
    test (decide ((IntKind.i64.wrap (x0 - (1 : Int))) < ((List.length x6) : Int))) (
     test (decide ((0 : Int) ≤ x0)) (
      test (decide (x0 < ((List.length x6) : Int))) (
       cond (Bool.not (Go.Op.bytesLess (ByteArray.toList ((rdEl TPair x6 (Int.toNat (IntKind.i64.wrap (x0 - (1 : Int)))))).1) (ByteArray.toList ((rdEl TPair x6 (Int.toNat x0))).1))) (
        some ((.c (.v (.bool false))), [])) (
        may.l1  m (IntKind.i64.wrap (x0 + (1 : Int))) x1 x2 x3 x4 x5 x6)))))) (
   cond (decide (x1 ≥ (1 : Int))) (
    cond (decide (x1 ≤ (1000000 : Int))) (
     test (word.pre (x2, Unit.unit)) (
      cond (wordB x2) (
       cond ((ByteArray.toList x4) == (ByteArray.toList (⟨#[]⟩ : ByteArray))) (
        cond (decide (x3 ≥ (0 : Int))) (
         cond (decide (x3 ≤ (3 : Int))) (
          cond (decide (x5 ≥ (1 : Int))) (
           cond (decide (x5 ≤ (20 : Int))) (
            test (maySub.pre (x6, Unit.unit)) (
             some ((.c (.v (.bool (maySubB x6)))), []))) (
            some ((.c (.v (.bool false))), []))) (
           some ((.c (.v (.bool false))), []))) (
          some ((.c (.v (.bool false))), []))) (
         some ((.c (.v (.bool false))), []))) (
        test (word.pre (x4, Unit.unit)) (
         cond (wordB x4) (
          cond (decide (x3 ≥ (0 : Int))) (
           cond (decide (x3 ≤ (3 : Int))) (
            cond (decide (x5 ≥ (1 : Int))) (
             cond (decide (x5 ≤ (20 : Int))) (
              test (maySub.pre (x6, Unit.unit)) (
               some ((.c (.v (.bool (maySubB x6)))), []))) (
              some ((.c (.v (.bool false))), []))) (
             some ((.c (.v (.bool false))), []))) (
            some ((.c (.v (.bool false))), []))) (
           some ((.c (.v (.bool false))), []))) (
          some ((.c (.v (.bool false))), []))))) (
       some ((.c (.v (.bool false))), [])))) (
     some ((.c (.v (.bool false))), []))) (
    some ((.c (.v (.bool false))), []))) := by kernel_rfl
theorem may.run_eq  (m : Nat) (x0 : (El THost)) : run (may.cfg ) Try.f28.ntmps Try.f28.results.toList m [.code (bodyOf Try.f28)] (enter (ivA may.ps (x0, ()))) = may.go  m x0 := by kernel_rfl
theorem may.ret  (hs : SpecsOK Try.prog (may.specs ))  (x0 : (El THost)) {m : Nat} {r : IV} (h : may.go  m x0 = some (r, [])) : VE.Returns Try.prog 28 (ivA may.ps (x0, ())) r :=
  returns_of_run (cfg := may.cfg ) (cfgOK_of mixed tab_ok hs .nil) rfl Try.func28 (body_some (by kernel_rfl)) (Nat.le_of_ble_eq_true (by kernel_rfl)) ((may.run_eq  m x0).trans h)
abbrev may.Law : Prop := ∀ (x0 : (El THost)), may.pre (x0, ()) = true → VE.Returns Try.prog 28 (ivA may.ps (x0, ())) (may.res (x0, ()))
theorem may.mkR (H : ∀ (x0 : (El THost)), may.pre (x0, ()) = true → VE.Returns Try.prog 28 (ivA may.ps (x0, ())) (may.res (x0, ()))) : SpecOK Try.prog 28 may.sp :=
  specOf_ret Try.func28 (by kernel_rfl) (by kernel_rfl) fun (x : (El THost) × Unit) hx => H (x.1) hx
theorem may.mk  (hs : SpecsOK Try.prog (may.specs ))  (H : ∀ (x0 : (El THost)), may.pre (x0, ()) = true → ∃ m, may.go  m x0 = some (may.res (x0, ()), [])) : SpecOK Try.prog 28 may.sp :=
  may.mkR fun x0 hx => (H x0 hx).elim fun _ hm => may.ret  hs  x0 hm

/-! ### triage/triageref1.MayHost -/
abbrev mayR.ps : List AK := [.d true THost]
def mayR.pre : ElA mayR.ps → Bool := fun (x : (El THost) × Unit) => fits THost (x.1) && (true)
def mayR.res : ElA mayR.ps → IV := fun (x : (El THost) × Unit) => (fun h => vb (mayB h)) x.1
def mayR.sp : ISpec := spOf mayR.ps mayR.pre mayR.res
abbrev mayR.OK : Prop := SpecOK Try.prog 13 mayR.sp
noncomputable def mayR.body : Code := bodyOf Try.f13
noncomputable def mayR.rs : List ResultVar := Try.f13.results.toList
def mayR.live : List (Nat × Live) := [(4, ⟨[(1, .plain), (3, .plain)], [(1, [])]⟩)]
noncomputable def mayR.specs  : List (Nat × (List Bool × ISpec)) := [(26, ([], wordR.sp)), (27, ([], maySubR.sp))]
noncomputable def mayR.ospecs  : List (Nat × OS) := []
noncomputable def mayR.cfg  : Cfg := ⟨lkp tab, lkp (mayR.specs ), lkp mayR.live, ⟨lkp (mayR.ospecs ), [], none, false, []⟩⟩
noncomputable def mayR.l1  (m : Nat) (x0 : Int) (x1 : Int) (x2 : ByteArray) (x3 : Int) (x4 : ByteArray) (x5 : Int) (x6 : List (El TPair)) : R := run (mayR.cfg ) 76 mayR.rs m ((todoR 4 mayR.body []).getD []) ⟨ofList (.c .junk) [(1, (.c (.ref 1 0))), (3, (.c (.v (.int .i64 x0))))], ofList none [(1, some (.cells 34 [(.v (.int .i64 x1)), (.v (.string x2)), (.v (.int .i64 x3)), (.v (.string x4)), (.v (.int .i64 x5)), (.sl TPair x6)]))], ofList false [(1, true)]⟩
noncomputable def mayR.go  (m : Nat) (x0 : (El THost)) : R := run (mayR.cfg ) 76 mayR.rs m [.code mayR.body] (enter (ivA mayR.ps (x0, ())))
theorem mayR.start  (m : Nat) (x0 : (El THost)) : mayR.go  (m + 1) x0 =
  cond (decide (x0.1 < (1 : Int))) (
   some ((.c (.v (.bool false))), [])) (
   cond (decide (x0.1 > (1000000 : Int))) (
    some ((.c (.v (.bool false))), [])) (
    test (wordR.pre (x0.2.1, Unit.unit)) (
     cond (Bool.not (wordB x0.2.1)) (
      some ((.c (.v (.bool false))), [])) (
      cond (Bool.not ((ByteArray.toList x0.2.2.2.1) == (ByteArray.toList (⟨#[]⟩ : ByteArray)))) (
       test (wordR.pre (x0.2.2.2.1, Unit.unit)) (
        cond (Bool.not (wordB x0.2.2.2.1)) (
         some ((.c (.v (.bool false))), [])) (
         cond (decide (x0.2.2.1 < (0 : Int))) (
          some ((.c (.v (.bool false))), [])) (
          cond (decide (x0.2.2.1 > (3 : Int))) (
           some ((.c (.v (.bool false))), [])) (
           cond (decide (x0.2.2.2.2.1 < (1 : Int))) (
            some ((.c (.v (.bool false))), [])) (
            cond (decide (x0.2.2.2.2.1 > (20 : Int))) (
             some ((.c (.v (.bool false))), [])) (
             test (maySubR.pre (x0.2.2.2.2.2, Unit.unit)) (
              cond (Bool.not (maySubB x0.2.2.2.2.2)) (
               some ((.c (.v (.bool false))), [])) (
               mayR.l1  m (1 : Int) x0.1 x0.2.1 x0.2.2.1 x0.2.2.2.1 x0.2.2.2.2.1 x0.2.2.2.2.2))))))))) (
       cond (decide (x0.2.2.1 < (0 : Int))) (
        some ((.c (.v (.bool false))), [])) (
        cond (decide (x0.2.2.1 > (3 : Int))) (
         some ((.c (.v (.bool false))), [])) (
         cond (decide (x0.2.2.2.2.1 < (1 : Int))) (
          some ((.c (.v (.bool false))), [])) (
          cond (decide (x0.2.2.2.2.1 > (20 : Int))) (
           some ((.c (.v (.bool false))), [])) (
           test (maySubR.pre (x0.2.2.2.2.2, Unit.unit)) (
            cond (Bool.not (maySubB x0.2.2.2.2.2)) (
             some ((.c (.v (.bool false))), [])) (
             mayR.l1  m (1 : Int) x0.1 x0.2.1 x0.2.2.1 x0.2.2.2.1 x0.2.2.2.2.1 x0.2.2.2.2.2))))))))))) := by kernel_rfl
theorem mayR.s1  (m : Nat) (x0 : Int) (x1 : Int) (x2 : ByteArray) (x3 : Int) (x4 : ByteArray) (x5 : Int) (x6 : List (El TPair)) : mayR.l1  (m + 1) x0 x1 x2 x3 x4 x5 x6 =
  cond (decide (x0 < ((List.length x6) : Int))) (
   test (decide ((0 : Int) ≤ x0)) (
    test (decide (x0 < ((List.length x6) : Int))) (
     test (decide ((0 : Int) ≤ (IntKind.i64.wrap (x0 - (1 : Int))))) (
      test (decide ((IntKind.i64.wrap (x0 - (1 : Int))) < ((List.length x6) : Int))) (
       cond ((Go.Op.bytesLess (ByteArray.toList ((rdEl TPair x6 (Int.toNat x0))).1) (ByteArray.toList ((rdEl TPair x6 (Int.toNat (IntKind.i64.wrap (x0 - (1 : Int)))))).1)) || ((ByteArray.toList ((rdEl TPair x6 (Int.toNat x0))).1) == (ByteArray.toList ((rdEl TPair x6 (Int.toNat (IntKind.i64.wrap (x0 - (1 : Int)))))).1))) (
        some ((.c (.v (.bool false))), [])) (
        mayR.l1  m (IntKind.i64.wrap (x0 + (1 : Int))) x1 x2 x3 x4 x5 x6)))))) (
   some ((.c (.v (.bool true))), [])) := by kernel_rfl
theorem mayR.run_eq  (m : Nat) (x0 : (El THost)) : run (mayR.cfg ) Try.f13.ntmps Try.f13.results.toList m [.code (bodyOf Try.f13)] (enter (ivA mayR.ps (x0, ()))) = mayR.go  m x0 := by kernel_rfl
theorem mayR.ret  (hs : SpecsOK Try.prog (mayR.specs ))  (x0 : (El THost)) {m : Nat} {r : IV} (h : mayR.go  m x0 = some (r, [])) : VE.Returns Try.prog 13 (ivA mayR.ps (x0, ())) r :=
  returns_of_run (cfg := mayR.cfg ) (cfgOK_of mixed tab_ok hs .nil) rfl Try.func13 (body_some (by kernel_rfl)) (Nat.le_of_ble_eq_true (by kernel_rfl)) ((mayR.run_eq  m x0).trans h)
abbrev mayR.Law : Prop := ∀ (x0 : (El THost)), mayR.pre (x0, ()) = true → VE.Returns Try.prog 13 (ivA mayR.ps (x0, ())) (mayR.res (x0, ()))
theorem mayR.mkR (H : ∀ (x0 : (El THost)), mayR.pre (x0, ()) = true → VE.Returns Try.prog 13 (ivA mayR.ps (x0, ())) (mayR.res (x0, ()))) : SpecOK Try.prog 13 mayR.sp :=
  specOf_ret Try.func13 (by kernel_rfl) (by kernel_rfl) fun (x : (El THost) × Unit) hx => H (x.1) hx
theorem mayR.mk  (hs : SpecsOK Try.prog (mayR.specs ))  (H : ∀ (x0 : (El THost)), mayR.pre (x0, ()) = true → ∃ m, mayR.go  m x0 = some (mayR.res (x0, ()), [])) : SpecOK Try.prog 13 mayR.sp :=
  mayR.mkR fun x0 hx => (H x0 hx).elim fun _ hm => mayR.ret  hs  x0 hm

/-! ### triage/triageref1.SamePairs -/
abbrev samePR.ps : List AK := [.d false (.sl TPair), .d false (.sl TPair)]
def samePR.pre : ElA samePR.ps → Bool := fun (x : (List (El TPair)) × (List (El TPair)) × Unit) => fits (.sl TPair) (x.1) && (fits (.sl TPair) (x.2.1) && (true))
def samePR.res : ElA samePR.ps → IV := fun (x : (List (El TPair)) × (List (El TPair)) × Unit) => (fun l m => vb (samePs l m)) x.1 x.2.1
def samePR.sp : ISpec := spOf samePR.ps samePR.pre samePR.res
abbrev samePR.OK : Prop := SpecOK Try.prog 41 samePR.sp
noncomputable def samePR.body : Code := bodyOf Try.f41
noncomputable def samePR.rs : List ResultVar := Try.f41.results.toList
def samePR.live : List (Nat × Live) := [(4, ⟨[(0, .sl TPair), (1, .sl TPair), (12, .plain), (13, .plain)], []⟩)]
noncomputable def samePR.specs  : List (Nat × (List Bool × ISpec)) := []
noncomputable def samePR.ospecs  : List (Nat × OS) := []
noncomputable def samePR.cfg  : Cfg := ⟨lkp tab, lkp (samePR.specs ), lkp samePR.live, ⟨lkp (samePR.ospecs ), [], none, false, []⟩⟩
noncomputable def samePR.l1  (m : Nat) (x0 : List (El TPair)) (x1 : List (El TPair)) (x2 : Int) (x3 : Int) : R := run (samePR.cfg ) 26 samePR.rs m ((todoR 4 samePR.body []).getD []) ⟨ofList (.c .junk) [(0, (.c (.sl TPair x0))), (1, (.c (.sl TPair x1))), (12, (.c (.v (.int .i64 x2)))), (13, (.c (.v (.int .i64 x3))))], ofList none [], ofList false []⟩
noncomputable def samePR.go  (m : Nat) (x0 : (List (El TPair))) (x1 : (List (El TPair))) : R := run (samePR.cfg ) 26 samePR.rs m [.code samePR.body] (enter (ivA samePR.ps (x0, x1, ())))
theorem samePR.start  (m : Nat) (x0 : (List (El TPair))) (x1 : (List (El TPair))) : samePR.go  (m + 1) x0 x1 =
  cond (bne ((List.length x0) : Int) ((List.length x1) : Int)) (
   some ((.c (.v (.bool false))), [])) (
   samePR.l1  m x0 x1 ((List.length x0) : Int) (0 : Int)) := by kernel_rfl
theorem samePR.s1  (m : Nat) (x0 : List (El TPair)) (x1 : List (El TPair)) (x2 : Int) (x3 : Int) : samePR.l1  (m + 1) x0 x1 x2 x3 =
  cond (decide (x3 < x2)) (
   test (decide ((0 : Int) ≤ x3)) (
    test (decide (x3 < ((List.length x0) : Int))) (
     test (decide ((0 : Int) ≤ x3)) (
      test (decide (x3 < ((List.length x1) : Int))) (
       cond (Bool.not (((ByteArray.toList ((rdEl TPair x0 (Int.toNat x3))).1) == (ByteArray.toList ((rdEl TPair x1 (Int.toNat x3))).1)) && (((ByteArray.toList ((rdEl TPair x0 (Int.toNat x3))).2) == (ByteArray.toList ((rdEl TPair x1 (Int.toNat x3))).2)) && true))) (
        some ((.c (.v (.bool false))), [])) (
        samePR.l1  m x0 x1 x2 (IntKind.i64.wrap (x3 + (1 : Int))))))))) (
   some ((.c (.v (.bool true))), [])) := by kernel_rfl
theorem samePR.run_eq  (m : Nat) (x0 : (List (El TPair))) (x1 : (List (El TPair))) : run (samePR.cfg ) Try.f41.ntmps Try.f41.results.toList m [.code (bodyOf Try.f41)] (enter (ivA samePR.ps (x0, x1, ()))) = samePR.go  m x0 x1 := by kernel_rfl
theorem samePR.ret  (hs : SpecsOK Try.prog (samePR.specs ))  (x0 : (List (El TPair))) (x1 : (List (El TPair))) {m : Nat} {r : IV} (h : samePR.go  m x0 x1 = some (r, [])) : VE.Returns Try.prog 41 (ivA samePR.ps (x0, x1, ())) r :=
  returns_of_run (cfg := samePR.cfg ) (cfgOK_of mixed tab_ok hs .nil) rfl Try.func41 (body_some (by kernel_rfl)) (Nat.le_of_ble_eq_true (by kernel_rfl)) ((samePR.run_eq  m x0 x1).trans h)
abbrev samePR.Law : Prop := ∀ (x0 : (List (El TPair))) (x1 : (List (El TPair))), samePR.pre (x0, x1, ()) = true → VE.Returns Try.prog 41 (ivA samePR.ps (x0, x1, ())) (samePR.res (x0, x1, ()))
theorem samePR.mkR (H : ∀ (x0 : (List (El TPair))) (x1 : (List (El TPair))), samePR.pre (x0, x1, ()) = true → VE.Returns Try.prog 41 (ivA samePR.ps (x0, x1, ())) (samePR.res (x0, x1, ()))) : SpecOK Try.prog 41 samePR.sp :=
  specOf_ret Try.func41 (by kernel_rfl) (by kernel_rfl) fun (x : (List (El TPair)) × (List (El TPair)) × Unit) hx => H (x.1) (x.2.1) hx
theorem samePR.mk  (hs : SpecsOK Try.prog (samePR.specs ))  (H : ∀ (x0 : (List (El TPair))) (x1 : (List (El TPair))), samePR.pre (x0, x1, ()) = true → ∃ m, samePR.go  m x0 x1 = some (samePR.res (x0, x1, ()), [])) : SpecOK Try.prog 41 samePR.sp :=
  samePR.mkR fun x0 x1 hx => (H x0 x1 hx).elim fun _ hm => samePR.ret  hs  x0 x1 hm

/-! ### triage/triageref1.SameHost -/
abbrev sameR.ps : List AK := [.d true THost, .d true THost]
def sameR.pre : ElA sameR.ps → Bool := fun (x : (El THost) × (El THost) × Unit) => fits THost (x.1) && (fits THost (x.2.1) && (true))
def sameR.res : ElA sameR.ps → IV := fun (x : (El THost) × (El THost) × Unit) => (fun a b => vb (sameB a b)) x.1 x.2.1
def sameR.sp : ISpec := spOf sameR.ps sameR.pre sameR.res
abbrev sameR.OK : Prop := SpecOK Try.prog 24 sameR.sp
noncomputable def sameR.body : Code := bodyOf Try.f24
noncomputable def sameR.rs : List ResultVar := Try.f24.results.toList
def sameR.live : List (Nat × Live) := []
noncomputable def sameR.specs  : List (Nat × (List Bool × ISpec)) := [(41, ([], samePR.sp))]
noncomputable def sameR.ospecs  : List (Nat × OS) := []
noncomputable def sameR.cfg  : Cfg := ⟨lkp tab, lkp (sameR.specs ), lkp sameR.live, ⟨lkp (sameR.ospecs ), [], none, false, []⟩⟩
noncomputable def sameR.go  (m : Nat) (x0 : (El THost)) (x1 : (El THost)) : R := run (sameR.cfg ) 45 sameR.rs m [.code sameR.body] (enter (ivA sameR.ps (x0, x1, ())))
theorem sameR.start  (m : Nat) (x0 : (El THost)) (x1 : (El THost)) : sameR.go  (m + 1) x0 x1 =
  cond (x0.1 == x1.1) (
   cond ((ByteArray.toList x0.2.1) == (ByteArray.toList x1.2.1)) (
    cond (x0.2.2.1 == x1.2.2.1) (
     cond ((ByteArray.toList x0.2.2.2.1) == (ByteArray.toList x1.2.2.2.1)) (
      cond (x0.2.2.2.2.1 == x1.2.2.2.2.1) (
       test (samePR.pre (x0.2.2.2.2.2, (x1.2.2.2.2.2, Unit.unit))) (
        some ((.c (.v (.bool (samePs x0.2.2.2.2.2 x1.2.2.2.2.2)))), []))) (
       some ((.c (.v (.bool false))), []))) (
      some ((.c (.v (.bool false))), []))) (
     some ((.c (.v (.bool false))), []))) (
    some ((.c (.v (.bool false))), []))) (
   some ((.c (.v (.bool false))), [])) := by kernel_rfl
theorem sameR.run_eq  (m : Nat) (x0 : (El THost)) (x1 : (El THost)) : run (sameR.cfg ) Try.f24.ntmps Try.f24.results.toList m [.code (bodyOf Try.f24)] (enter (ivA sameR.ps (x0, x1, ()))) = sameR.go  m x0 x1 := by kernel_rfl
theorem sameR.ret  (hs : SpecsOK Try.prog (sameR.specs ))  (x0 : (El THost)) (x1 : (El THost)) {m : Nat} {r : IV} (h : sameR.go  m x0 x1 = some (r, [])) : VE.Returns Try.prog 24 (ivA sameR.ps (x0, x1, ())) r :=
  returns_of_run (cfg := sameR.cfg ) (cfgOK_of mixed tab_ok hs .nil) rfl Try.func24 (body_some (by kernel_rfl)) (Nat.le_of_ble_eq_true (by kernel_rfl)) ((sameR.run_eq  m x0 x1).trans h)
abbrev sameR.Law : Prop := ∀ (x0 : (El THost)) (x1 : (El THost)), sameR.pre (x0, x1, ()) = true → VE.Returns Try.prog 24 (ivA sameR.ps (x0, x1, ())) (sameR.res (x0, x1, ()))
theorem sameR.mkR (H : ∀ (x0 : (El THost)) (x1 : (El THost)), sameR.pre (x0, x1, ()) = true → VE.Returns Try.prog 24 (ivA sameR.ps (x0, x1, ())) (sameR.res (x0, x1, ()))) : SpecOK Try.prog 24 sameR.sp :=
  specOf_ret Try.func24 (by kernel_rfl) (by kernel_rfl) fun (x : (El THost) × (El THost) × Unit) hx => H (x.1) (x.2.1) hx
theorem sameR.mk  (hs : SpecsOK Try.prog (sameR.specs ))  (H : ∀ (x0 : (El THost)) (x1 : (El THost)), sameR.pre (x0, x1, ()) = true → ∃ m, sameR.go  m x0 x1 = some (sameR.res (x0, x1, ()), [])) : SpecOK Try.prog 24 sameR.sp :=
  sameR.mkR fun x0 x1 hx => (H x0 x1 hx).elim fun _ hm => sameR.ret  hs  x0 x1 hm

/-! ### slices.Clone(()triage/api.Pair,triage/api.Pair) -/
abbrev clone.ps : List AK := [.d false (.sl TPair)]
def clone.pre : ElA clone.ps → Bool := fun (x : (List (El TPair)) × Unit) => fits (.sl TPair) (x.1) && (true)
def clone.res : ElA clone.ps → IV := fun (x : (List (El TPair)) × Unit) => (fun l => .c (.sl TPair l)) x.1
def clone.sp : ISpec := spOf clone.ps clone.pre clone.res
abbrev clone.OK : Prop := SpecOK Try.prog 48 clone.sp
theorem clone.mkR (H : ∀ (x0 : (List (El TPair))), clone.pre (x0, ()) = true → VE.Returns Try.prog 48 (ivA clone.ps (x0, ())) (clone.res (x0, ()))) : SpecOK Try.prog 48 clone.sp :=
  specOf_ret Try.func48 (by kernel_rfl) (by kernel_rfl) fun (x : (List (El TPair)) × Unit) hx => H (x.1) hx

/-! ### slices.Clone(()triage/api.Pair,triage/api.Pair) -/
noncomputable def cloneN.body : Code := bodyOf Try.f48
noncomputable def cloneN.rs : List ResultVar := Try.f48.results.toList
def cloneN.live : List (Nat × Live) := []
noncomputable def cloneN.specs  : List (Nat × (List Bool × ISpec)) := []
noncomputable def cloneN.ospecs  : List (Nat × OS) := []
noncomputable def cloneN.cfg  : Cfg := ⟨lkp tab, lkp (cloneN.specs ), lkp cloneN.live, ⟨lkp (cloneN.ospecs ), [], none, false, []⟩⟩
noncomputable def cloneN.go  (m : Nat)  : R := run (cloneN.cfg ) 8 cloneN.rs m [.code cloneN.body] (enter [.c (.v (.slice none 0 0))])
theorem cloneN.start  (m : Nat)  : cloneN.go  (m + 1)  =
  some ((.c (.v (.slice none 0 0))), []) := by kernel_rfl
theorem cloneN.run_eq  (m : Nat)  : run (cloneN.cfg ) Try.f48.ntmps Try.f48.results.toList m [.code (bodyOf Try.f48)] (enter [.c (.v (.slice none 0 0))]) = cloneN.go  m  := by kernel_rfl
theorem cloneN.ret  (hs : SpecsOK Try.prog (cloneN.specs ))   {m : Nat} {r : IV} (h : cloneN.go  m  = some (r, [])) : VE.Returns Try.prog 48 [.c (.v (.slice none 0 0))] r :=
  returns_of_run (cfg := cloneN.cfg ) (cfgOK_of mixed tab_ok hs .nil) rfl Try.func48 (body_some (by kernel_rfl)) (Nat.le_of_ble_eq_true (by kernel_rfl)) ((cloneN.run_eq  m ).trans h)

/-! ### slices.Clone(()triage/api.Pair,triage/api.Pair) -/
noncomputable def cloneE.body : Code := bodyOf Try.f48
noncomputable def cloneE.rs : List ResultVar := Try.f48.results.toList
def cloneE.live : List (Nat × Live) := []
noncomputable def cloneE.specs  : List (Nat × (List Bool × ISpec)) := []
noncomputable def cloneE.ospecs  : List (Nat × OS) := []
noncomputable def cloneE.cfg  : Cfg := ⟨lkp tab, lkp (cloneE.specs ), lkp cloneE.live, ⟨lkp (cloneE.ospecs ), [], none, false, []⟩⟩
noncomputable def cloneE.go  (m : Nat)  : R := run (cloneE.cfg ) 8 cloneE.rs m [.code cloneE.body] (enter [.c .emp])
theorem cloneE.start  (m : Nat)  : cloneE.go  (m + 1)  =
  some ((.c (.sl TPair (([] : List (El TPair)) ++ ([] : List (El TPair))))), []) := by kernel_rfl
theorem cloneE.run_eq  (m : Nat)  : run (cloneE.cfg ) Try.f48.ntmps Try.f48.results.toList m [.code (bodyOf Try.f48)] (enter [.c .emp]) = cloneE.go  m  := by kernel_rfl
theorem cloneE.ret  (hs : SpecsOK Try.prog (cloneE.specs ))   {m : Nat} {r : IV} (h : cloneE.go  m  = some (r, [])) : VE.Returns Try.prog 48 [.c .emp] r :=
  returns_of_run (cfg := cloneE.cfg ) (cfgOK_of mixed tab_ok hs .nil) rfl Try.func48 (body_some (by kernel_rfl)) (Nat.le_of_ble_eq_true (by kernel_rfl)) ((cloneE.run_eq  m ).trans h)

/-! ### slices.Clone(()triage/api.Pair,triage/api.Pair) -/
noncomputable def cloneC.body : Code := bodyOf Try.f48
noncomputable def cloneC.rs : List ResultVar := Try.f48.results.toList
def cloneC.live : List (Nat × Live) := []
noncomputable def cloneC.specs  : List (Nat × (List Bool × ISpec)) := []
noncomputable def cloneC.ospecs  : List (Nat × OS) := []
noncomputable def cloneC.cfg  : Cfg := ⟨lkp tab, lkp (cloneC.specs ), lkp cloneC.live, ⟨lkp (cloneC.ospecs ), [], none, false, []⟩⟩
noncomputable def cloneC.go  (m : Nat) (x0 : (El TPair)) (x1 : (List (El TPair))) : R := run (cloneC.cfg ) 8 cloneC.rs m [.code cloneC.body] (enter [.c (.sl TPair (x0 :: x1))])
theorem cloneC.start  (m : Nat) (x0 : (El TPair)) (x1 : (List (El TPair))) : cloneC.go  (m + 1) x0 x1 =
  test (decide (((List.length ([] : List (El TPair))) + (List.length (x0 :: x1))) ≤ (lim 32))) (
   some ((.c (.sl TPair (([] : List (El TPair)) ++ (x0 :: x1)))), [])) := by kernel_rfl
theorem cloneC.run_eq  (m : Nat) (x0 : (El TPair)) (x1 : (List (El TPair))) : run (cloneC.cfg ) Try.f48.ntmps Try.f48.results.toList m [.code (bodyOf Try.f48)] (enter [.c (.sl TPair (x0 :: x1))]) = cloneC.go  m x0 x1 := by kernel_rfl
theorem cloneC.ret  (hs : SpecsOK Try.prog (cloneC.specs ))  (x0 : (El TPair)) (x1 : (List (El TPair))) {m : Nat} {r : IV} (h : cloneC.go  m x0 x1 = some (r, [])) : VE.Returns Try.prog 48 [.c (.sl TPair (x0 :: x1))] r :=
  returns_of_run (cfg := cloneC.cfg ) (cfgOK_of mixed tab_ok hs .nil) rfl Try.func48 (body_some (by kernel_rfl)) (Nat.le_of_ble_eq_true (by kernel_rfl)) ((cloneC.run_eq  m x0 x1).trans h)

/-! ### triage/host.Copy -/
abbrev copy.ps : List AK := [.d true THost]
def copy.pre : ElA copy.ps → Bool := fun (x : (El THost) × Unit) => fits THost (x.1) && (true)
def copy.res : ElA copy.ps → IV := fun (x : (El THost) × Unit) => (fun h => mkIV true (enc THost h)) x.1
def copy.sp : ISpec := spOf copy.ps copy.pre copy.res
abbrev copy.OK : Prop := SpecOK Try.prog 33 copy.sp
noncomputable def copy.body : Code := bodyOf Try.f33
noncomputable def copy.rs : List ResultVar := Try.f33.results.toList
def copy.live : List (Nat × Live) := []
noncomputable def copy.specs  : List (Nat × (List Bool × ISpec)) := [(48, ([], clone.sp))]
noncomputable def copy.ospecs  : List (Nat × OS) := []
noncomputable def copy.cfg  : Cfg := ⟨lkp tab, lkp (copy.specs ), lkp copy.live, ⟨lkp (copy.ospecs ), [], none, false, []⟩⟩
noncomputable def copy.go  (m : Nat) (x0 : (El THost)) : R := run (copy.cfg ) 8 copy.rs m [.code copy.body] (enter (ivA copy.ps (x0, ())))
theorem copy.start  (m : Nat) (x0 : (El THost)) : copy.go  (m + 1) x0 =
  test (clone.pre (x0.2.2.2.2.2, Unit.unit)) (
   some ((.agg [(.v (.int .i64 x0.1)), (.v (.string x0.2.1)), (.v (.int .i64 x0.2.2.1)), (.v (.string x0.2.2.2.1)), (.v (.int .i64 x0.2.2.2.2.1)), (.sl TPair x0.2.2.2.2.2)]), [])) := by kernel_rfl
theorem copy.run_eq  (m : Nat) (x0 : (El THost)) : run (copy.cfg ) Try.f33.ntmps Try.f33.results.toList m [.code (bodyOf Try.f33)] (enter (ivA copy.ps (x0, ()))) = copy.go  m x0 := by kernel_rfl
theorem copy.ret  (hs : SpecsOK Try.prog (copy.specs ))  (x0 : (El THost)) {m : Nat} {r : IV} (h : copy.go  m x0 = some (r, [])) : VE.Returns Try.prog 33 (ivA copy.ps (x0, ())) r :=
  returns_of_run (cfg := copy.cfg ) (cfgOK_of mixed tab_ok hs .nil) rfl Try.func33 (body_some (by kernel_rfl)) (Nat.le_of_ble_eq_true (by kernel_rfl)) ((copy.run_eq  m x0).trans h)
abbrev copy.Law : Prop := ∀ (x0 : (El THost)), copy.pre (x0, ()) = true → VE.Returns Try.prog 33 (ivA copy.ps (x0, ())) (copy.res (x0, ()))
theorem copy.mkR (H : ∀ (x0 : (El THost)), copy.pre (x0, ()) = true → VE.Returns Try.prog 33 (ivA copy.ps (x0, ())) (copy.res (x0, ()))) : SpecOK Try.prog 33 copy.sp :=
  specOf_ret Try.func33 (by kernel_rfl) (by kernel_rfl) fun (x : (El THost) × Unit) hx => H (x.1) hx
theorem copy.mk  (hs : SpecsOK Try.prog (copy.specs ))  (H : ∀ (x0 : (El THost)), copy.pre (x0, ()) = true → ∃ m, copy.go  m x0 = some (copy.res (x0, ()), [])) : SpecOK Try.prog 33 copy.sp :=
  copy.mkR fun x0 hx => (H x0 hx).elim fun _ hm => copy.ret  hs  x0 hm

/-! ### triage/triageref1.CopyHost -/
abbrev copyR.ps : List AK := [.d true THost]
def copyR.pre : ElA copyR.ps → Bool := fun (x : (El THost) × Unit) => fits THost (x.1) && (true)
def copyR.res : ElA copyR.ps → IV := fun (x : (El THost) × Unit) => (fun h => mkIV true (enc THost h)) x.1
def copyR.sp : ISpec := spOf copyR.ps copyR.pre copyR.res
abbrev copyR.OK : Prop := SpecOK Try.prog 37 copyR.sp
noncomputable def copyR.body : Code := bodyOf Try.f37
noncomputable def copyR.rs : List ResultVar := Try.f37.results.toList
def copyR.live : List (Nat × Live) := []
noncomputable def copyR.specs  : List (Nat × (List Bool × ISpec)) := []
noncomputable def copyR.ospecs  : List (Nat × OS) := []
noncomputable def copyR.cfg  : Cfg := ⟨lkp tab, lkp (copyR.specs ), lkp copyR.live, ⟨lkp (copyR.ospecs ), [], none, false, []⟩⟩
noncomputable def copyR.go  (m : Nat) (x0 : (El THost)) : R := run (copyR.cfg ) 8 copyR.rs m [.code copyR.body] (enter (ivA copyR.ps (x0, ())))
theorem copyR.start  (m : Nat) (x0 : (El THost)) : copyR.go  (m + 1) x0 =
  test (decide ((List.length x0.2.2.2.2.2) ≤ (lim 32))) (
   some ((.agg [(.v (.int .i64 x0.1)), (.v (.string x0.2.1)), (.v (.int .i64 x0.2.2.1)), (.v (.string x0.2.2.2.1)), (.v (.int .i64 x0.2.2.2.2.1)), (.sl TPair x0.2.2.2.2.2)]), [])) := by kernel_rfl
theorem copyR.run_eq  (m : Nat) (x0 : (El THost)) : run (copyR.cfg ) Try.f37.ntmps Try.f37.results.toList m [.code (bodyOf Try.f37)] (enter (ivA copyR.ps (x0, ()))) = copyR.go  m x0 := by kernel_rfl
theorem copyR.ret  (hs : SpecsOK Try.prog (copyR.specs ))  (x0 : (El THost)) {m : Nat} {r : IV} (h : copyR.go  m x0 = some (r, [])) : VE.Returns Try.prog 37 (ivA copyR.ps (x0, ())) r :=
  returns_of_run (cfg := copyR.cfg ) (cfgOK_of mixed tab_ok hs .nil) rfl Try.func37 (body_some (by kernel_rfl)) (Nat.le_of_ble_eq_true (by kernel_rfl)) ((copyR.run_eq  m x0).trans h)
abbrev copyR.Law : Prop := ∀ (x0 : (El THost)), copyR.pre (x0, ()) = true → VE.Returns Try.prog 37 (ivA copyR.ps (x0, ())) (copyR.res (x0, ()))
theorem copyR.mkR (H : ∀ (x0 : (El THost)), copyR.pre (x0, ()) = true → VE.Returns Try.prog 37 (ivA copyR.ps (x0, ())) (copyR.res (x0, ()))) : SpecOK Try.prog 37 copyR.sp :=
  specOf_ret Try.func37 (by kernel_rfl) (by kernel_rfl) fun (x : (El THost) × Unit) hx => H (x.1) hx
theorem copyR.mk  (hs : SpecsOK Try.prog (copyR.specs ))  (H : ∀ (x0 : (El THost)), copyR.pre (x0, ()) = true → ∃ m, copyR.go  m x0 = some (copyR.res (x0, ()), [])) : SpecOK Try.prog 37 copyR.sp :=
  copyR.mkR fun x0 hx => (H x0 hx).elim fun _ hm => copyR.ret  hs  x0 hm

/-! ### triage/triagelaw7.Light -/
abbrev light.ps : List AK := [.d true THost]
def light.pre : ElA light.ps → Bool := fun (x : (El THost) × Unit) => fits THost (x.1) && (true)
def light.res : ElA light.ps → IV := fun (x : (El THost) × Unit) => (fun h => vi .i64 (lightI h)) x.1
def light.sp : ISpec := spOf light.ps light.pre light.res
abbrev light.OK : Prop := SpecOK Try.prog 18 light.sp
noncomputable def light.body : Code := bodyOf Try.f18
noncomputable def light.rs : List ResultVar := Try.f18.results.toList
def light.live : List (Nat × Live) := [(3, ⟨[(3, .plain), (14, .sl TPair), (15, .plain), (16, .plain)], []⟩)]
noncomputable def light.specs  : List (Nat × (List Bool × ISpec)) := []
noncomputable def light.ospecs  : List (Nat × OS) := []
noncomputable def light.cfg  : Cfg := ⟨lkp tab, lkp (light.specs ), lkp light.live, ⟨lkp (light.ospecs ), [], none, false, []⟩⟩
noncomputable def light.l1  (m : Nat) (x0 : Int) (x1 : List (El TPair)) (x2 : Int) (x3 : Int) : R := run (light.cfg ) 33 light.rs m ((todoR 3 light.body []).getD []) ⟨ofList (.c .junk) [(3, (.c (.v (.int .i64 x0)))), (14, (.c (.sl TPair x1))), (15, (.c (.v (.int .i64 x2)))), (16, (.c (.v (.int .i64 x3))))], ofList none [], ofList false []⟩
noncomputable def light.go  (m : Nat) (x0 : (El THost)) : R := run (light.cfg ) 33 light.rs m [.code light.body] (enter (ivA light.ps (x0, ())))
theorem light.start  (m : Nat) (x0 : (El THost)) : light.go  (m + 1) x0 =
  light.l1  m (IntKind.i64.wrap (((ByteArray.size x0.2.1) : Int) + ((ByteArray.size x0.2.2.2.1) : Int))) x0.2.2.2.2.2 ((List.length x0.2.2.2.2.2) : Int) (0 : Int) := by kernel_rfl
theorem light.s1  (m : Nat) (x0 : Int) (x1 : List (El TPair)) (x2 : Int) (x3 : Int) : light.l1  (m + 1) x0 x1 x2 x3 =
  cond (decide (x3 < x2)) (
   test (decide ((0 : Int) ≤ x3)) (
    test (decide (x3 < ((List.length x1) : Int))) (
     light.l1  m (IntKind.i64.wrap (x0 + (IntKind.i64.wrap ((IntKind.i64.wrap ((1 : Int) + ((ByteArray.size ((rdEl TPair x1 (Int.toNat x3))).1) : Int))) + ((ByteArray.size ((rdEl TPair x1 (Int.toNat x3))).2) : Int))))) x1 x2 (IntKind.i64.wrap (x3 + (1 : Int)))))) (
   cond (decide (x0 > (600 : Int))) (
    some ((.c (.v (.int .i64 (1 : Int)))), [])) (
    some ((.c (.v (.int .i64 (0 : Int)))), []))) := by kernel_rfl
theorem light.run_eq  (m : Nat) (x0 : (El THost)) : run (light.cfg ) Try.f18.ntmps Try.f18.results.toList m [.code (bodyOf Try.f18)] (enter (ivA light.ps (x0, ()))) = light.go  m x0 := by kernel_rfl
theorem light.ret  (hs : SpecsOK Try.prog (light.specs ))  (x0 : (El THost)) {m : Nat} {r : IV} (h : light.go  m x0 = some (r, [])) : VE.Returns Try.prog 18 (ivA light.ps (x0, ())) r :=
  returns_of_run (cfg := light.cfg ) (cfgOK_of mixed tab_ok hs .nil) rfl Try.func18 (body_some (by kernel_rfl)) (Nat.le_of_ble_eq_true (by kernel_rfl)) ((light.run_eq  m x0).trans h)
abbrev light.Law : Prop := ∀ (x0 : (El THost)), light.pre (x0, ()) = true → VE.Returns Try.prog 18 (ivA light.ps (x0, ())) (light.res (x0, ()))
theorem light.mkR (H : ∀ (x0 : (El THost)), light.pre (x0, ()) = true → VE.Returns Try.prog 18 (ivA light.ps (x0, ())) (light.res (x0, ()))) : SpecOK Try.prog 18 light.sp :=
  specOf_ret Try.func18 (by kernel_rfl) (by kernel_rfl) fun (x : (El THost) × Unit) hx => H (x.1) hx
theorem light.mk  (hs : SpecsOK Try.prog (light.specs ))  (H : ∀ (x0 : (El THost)), light.pre (x0, ()) = true → ∃ m, light.go  m x0 = some (light.res (x0, ()), [])) : SpecOK Try.prog 18 light.sp :=
  light.mkR fun x0 hx => (H x0 hx).elim fun _ hm => light.ret  hs  x0 hm

/-! ### triage/order.Less -/
abbrev less.ps : List AK := [.d true TKey, .d true TKey]
def less.pre : ElA less.ps → Bool := fun (x : (El TKey) × (El TKey) × Unit) => fits TKey (x.1) && (fits TKey (x.2.1) && (true))
def less.res : ElA less.ps → IV := fun (x : (El TKey) × (El TKey) × Unit) => (fun k l => vb (ltK k l)) x.1 x.2.1
def less.sp : ISpec := spOf less.ps less.pre less.res
abbrev less.OK : Prop := SpecOK Try.prog 45 less.sp
noncomputable def less.body : Code := bodyOf Try.f45
noncomputable def less.rs : List ResultVar := Try.f45.results.toList
def less.live : List (Nat × Live) := []
noncomputable def less.specs  : List (Nat × (List Bool × ISpec)) := []
noncomputable def less.ospecs  : List (Nat × OS) := []
noncomputable def less.cfg  : Cfg := ⟨lkp tab, lkp (less.specs ), lkp less.live, ⟨lkp (less.ospecs ), [], none, false, []⟩⟩
noncomputable def less.go  (m : Nat) (x0 : (El TKey)) (x1 : (El TKey)) : R := run (less.cfg ) 24 less.rs m [.code less.body] (enter (ivA less.ps (x0, x1, ())))
theorem less.start  (m : Nat) (x0 : (El TKey)) (x1 : (El TKey)) : less.go  (m + 1) x0 x1 =
  cond (decide (x0.1 < x1.1)) (
   some ((.c (.v (.bool true))), [])) (
   cond (x0.1 == x1.1) (
    some ((.c (.v (.bool (decide (x0.2 < x1.2))))), [])) (
    some ((.c (.v (.bool false))), []))) := by kernel_rfl
theorem less.run_eq  (m : Nat) (x0 : (El TKey)) (x1 : (El TKey)) : run (less.cfg ) Try.f45.ntmps Try.f45.results.toList m [.code (bodyOf Try.f45)] (enter (ivA less.ps (x0, x1, ()))) = less.go  m x0 x1 := by kernel_rfl
theorem less.ret  (hs : SpecsOK Try.prog (less.specs ))  (x0 : (El TKey)) (x1 : (El TKey)) {m : Nat} {r : IV} (h : less.go  m x0 x1 = some (r, [])) : VE.Returns Try.prog 45 (ivA less.ps (x0, x1, ())) r :=
  returns_of_run (cfg := less.cfg ) (cfgOK_of mixed tab_ok hs .nil) rfl Try.func45 (body_some (by kernel_rfl)) (Nat.le_of_ble_eq_true (by kernel_rfl)) ((less.run_eq  m x0 x1).trans h)
abbrev less.Law : Prop := ∀ (x0 : (El TKey)) (x1 : (El TKey)), less.pre (x0, x1, ()) = true → VE.Returns Try.prog 45 (ivA less.ps (x0, x1, ())) (less.res (x0, x1, ()))
theorem less.mkR (H : ∀ (x0 : (El TKey)) (x1 : (El TKey)), less.pre (x0, x1, ()) = true → VE.Returns Try.prog 45 (ivA less.ps (x0, x1, ())) (less.res (x0, x1, ()))) : SpecOK Try.prog 45 less.sp :=
  specOf_ret Try.func45 (by kernel_rfl) (by kernel_rfl) fun (x : (El TKey) × (El TKey) × Unit) hx => H (x.1) (x.2.1) hx
theorem less.mk  (hs : SpecsOK Try.prog (less.specs ))  (H : ∀ (x0 : (El TKey)) (x1 : (El TKey)), less.pre (x0, x1, ()) = true → ∃ m, less.go  m x0 x1 = some (less.res (x0, x1, ()), [])) : SpecOK Try.prog 45 less.sp :=
  less.mkR fun x0 x1 hx => (H x0 x1 hx).elim fun _ hm => less.ret  hs  x0 x1 hm

/-! ### triage/order.Rising -/
abbrev rising.ps : List AK := [.d false (.sl TKey)]
def rising.pre : ElA rising.ps → Bool := fun (x : (List (El TKey)) × Unit) => fits (.sl TKey) (x.1) && (true)
def rising.res : ElA rising.ps → IV := fun (x : (List (El TKey)) × Unit) => (fun l => vb (risesK l)) x.1
def rising.sp : ISpec := spOf rising.ps rising.pre rising.res
abbrev rising.OK : Prop := SpecOK Try.prog 34 rising.sp
noncomputable def rising.body : Code := bodyOf Try.f34
noncomputable def rising.rs : List ResultVar := Try.f34.results.toList
def rising.live : List (Nat × Live) := [(2, ⟨[(0, .sl TKey), (3, .plain)], []⟩)]
noncomputable def rising.specs  : List (Nat × (List Bool × ISpec)) := [(45, ([], less.sp))]
noncomputable def rising.ospecs  : List (Nat × OS) := []
noncomputable def rising.cfg  : Cfg := ⟨lkp tab, lkp (rising.specs ), lkp rising.live, ⟨lkp (rising.ospecs ), [], none, false, []⟩⟩
noncomputable def rising.l1  (m : Nat) (x0 : List (El TKey)) (x1 : Int) : R := run (rising.cfg ) 21 rising.rs m ((todoR 2 rising.body []).getD []) ⟨ofList (.c .junk) [(0, (.c (.sl TKey x0))), (3, (.c (.v (.int .i64 x1))))], ofList none [], ofList false []⟩
noncomputable def rising.go  (m : Nat) (x0 : (List (El TKey))) : R := run (rising.cfg ) 21 rising.rs m [.code rising.body] (enter (ivA rising.ps (x0, ())))
theorem rising.start  (m : Nat) (x0 : (List (El TKey))) : rising.go  (m + 1) x0 =
  rising.l1  m x0 (1 : Int) := by kernel_rfl
theorem rising.s1  (m : Nat) (x0 : List (El TKey)) (x1 : Int) : rising.l1  (m + 1) x0 x1 =
  cond (decide (x1 < ((List.length x0) : Int))) (
   test (decide ((0 : Int) ≤ (IntKind.i64.wrap (x1 - (1 : Int))))) (
    test (decide ((IntKind.i64.wrap (x1 - (1 : Int))) < ((List.length x0) : Int))) (
     test (decide ((0 : Int) ≤ x1)) (
      test (decide (x1 < ((List.length x0) : Int))) (
       cond (Bool.not (ltK ((rdEl TKey x0 (Int.toNat (IntKind.i64.wrap (x1 - (1 : Int)))))) ((rdEl TKey x0 (Int.toNat x1))))) (
        some ((.c (.v (.bool false))), [])) (
        rising.l1  m x0 (IntKind.i64.wrap (x1 + (1 : Int))))))))) (
   some ((.c (.v (.bool true))), [])) := by kernel_rfl
theorem rising.run_eq  (m : Nat) (x0 : (List (El TKey))) : run (rising.cfg ) Try.f34.ntmps Try.f34.results.toList m [.code (bodyOf Try.f34)] (enter (ivA rising.ps (x0, ()))) = rising.go  m x0 := by kernel_rfl
theorem rising.ret  (hs : SpecsOK Try.prog (rising.specs ))  (x0 : (List (El TKey))) {m : Nat} {r : IV} (h : rising.go  m x0 = some (r, [])) : VE.Returns Try.prog 34 (ivA rising.ps (x0, ())) r :=
  returns_of_run (cfg := rising.cfg ) (cfgOK_of mixed tab_ok hs .nil) rfl Try.func34 (body_some (by kernel_rfl)) (Nat.le_of_ble_eq_true (by kernel_rfl)) ((rising.run_eq  m x0).trans h)
abbrev rising.Law : Prop := ∀ (x0 : (List (El TKey))), rising.pre (x0, ()) = true → VE.Returns Try.prog 34 (ivA rising.ps (x0, ())) (rising.res (x0, ()))
theorem rising.mkR (H : ∀ (x0 : (List (El TKey))), rising.pre (x0, ()) = true → VE.Returns Try.prog 34 (ivA rising.ps (x0, ())) (rising.res (x0, ()))) : SpecOK Try.prog 34 rising.sp :=
  specOf_ret Try.func34 (by kernel_rfl) (by kernel_rfl) fun (x : (List (El TKey)) × Unit) hx => H (x.1) hx
theorem rising.mk  (hs : SpecsOK Try.prog (rising.specs ))  (H : ∀ (x0 : (List (El TKey))), rising.pre (x0, ()) = true → ∃ m, rising.go  m x0 = some (rising.res (x0, ()), [])) : SpecOK Try.prog 34 rising.sp :=
  rising.mkR fun x0 hx => (H x0 hx).elim fun _ hm => rising.ret  hs  x0 hm

/-! ### triage/order.Find -/
abbrev ofind.ps : List AK := [.d false (.sl TKey), .d true TKey]
def ofind.pre : ElA ofind.ps → Bool := fun (x : (List (El TKey)) × (El TKey) × Unit) => fits (.sl TKey) (x.1) && (fits TKey (x.2.1) && ((fun l _ => risesK l) x.1 x.2.1 && (true)))
def ofind.res : ElA ofind.ps → IV := fun (x : (List (El TKey)) × (El TKey) × Unit) => (fun l k => .tup [vi .i64 (placeK l k : Int), vb (thereK l k)]) x.1 x.2.1
def ofind.sp : ISpec := spOf ofind.ps ofind.pre ofind.res
abbrev ofind.OK : Prop := SpecOK Try.prog 29 ofind.sp
noncomputable def ofind.body : Code := bodyOf Try.f29
noncomputable def ofind.rs : List ResultVar := Try.f29.results.toList
def ofind.live : List (Nat × Live) := [(2, ⟨[(0, .sl TKey), (3, .plain), (6, .plain), (7, .plain)], [(1, [])]⟩)]
noncomputable def ofind.specs  : List (Nat × (List Bool × ISpec)) := [(45, ([], less.sp))]
noncomputable def ofind.ospecs  : List (Nat × OS) := []
noncomputable def ofind.cfg  : Cfg := ⟨lkp tab, lkp (ofind.specs ), lkp ofind.live, ⟨lkp (ofind.ospecs ), [], none, false, []⟩⟩
noncomputable def ofind.l1  (m : Nat) (x0 : List (El TKey)) (x1 : Int) (x2 : Int) (x3 : Int) (x4 : Int) : R := run (ofind.cfg ) 42 ofind.rs m ((todoR 2 ofind.body []).getD []) ⟨ofList (.c .junk) [(0, (.c (.sl TKey x0))), (3, (.c (.ref 1 0))), (6, (.c (.v (.int .i64 x1)))), (7, (.c (.v (.int .i64 x2))))], ofList none [(1, some (.cells 57 [(.v (.int .i64 x3)), (.v (.int .i64 x4))]))], ofList false [(1, true)]⟩
noncomputable def ofind.go  (m : Nat) (x0 : (List (El TKey))) (x1 : (El TKey)) : R := run (ofind.cfg ) 42 ofind.rs m [.code ofind.body] (enter (ivA ofind.ps (x0, x1, ())))
theorem ofind.start  (m : Nat) (x0 : (List (El TKey))) (x1 : (El TKey)) : ofind.go  (m + 1) x0 x1 =
  ofind.l1  m x0 (0 : Int) ((List.length x0) : Int) x1.1 x1.2 := by kernel_rfl
theorem ofind.s1  (m : Nat) (x0 : List (El TKey)) (x1 : Int) (x2 : Int) (x3 : Int) (x4 : Int) : ofind.l1  (m + 1) x0 x1 x2 x3 x4 =
  cond (decide (x1 < x2)) (
   test (decide ((0 : Int) ≤ (IntKind.i64.wrap (x1 + (IntKind.i64.wrap (Int.tdiv (IntKind.i64.wrap (x2 - x1)) (2 : Int))))))) (
    test (decide ((IntKind.i64.wrap (x1 + (IntKind.i64.wrap (Int.tdiv (IntKind.i64.wrap (x2 - x1)) (2 : Int))))) < ((List.length x0) : Int))) (
     cond (ltK ((rdEl TKey x0 (Int.toNat (IntKind.i64.wrap (x1 + (IntKind.i64.wrap (Int.tdiv (IntKind.i64.wrap (x2 - x1)) (2 : Int)))))))) (x3, x4)) (
      ofind.l1  m x0 (IntKind.i64.wrap ((IntKind.i64.wrap (x1 + (IntKind.i64.wrap (Int.tdiv (IntKind.i64.wrap (x2 - x1)) (2 : Int))))) + (1 : Int))) x2 x3 x4) (
      ofind.l1  m x0 x1 (IntKind.i64.wrap (x1 + (IntKind.i64.wrap (Int.tdiv (IntKind.i64.wrap (x2 - x1)) (2 : Int))))) x3 x4)))) (
   cond (decide (x1 < ((List.length x0) : Int))) (
    test (decide ((0 : Int) ≤ x1)) (
     test (decide (x1 < ((List.length x0) : Int))) (
      some ((.tup [(.c (.v (.int .i64 x1))), (.c (.v (.bool ((((rdEl TKey x0 (Int.toNat x1))).1 == x3) && ((((rdEl TKey x0 (Int.toNat x1))).2 == x4) && true)))))]), [])))) (
    some ((.tup [(.c (.v (.int .i64 x1))), (.c (.v (.bool false)))]), []))) := by kernel_rfl
theorem ofind.run_eq  (m : Nat) (x0 : (List (El TKey))) (x1 : (El TKey)) : run (ofind.cfg ) Try.f29.ntmps Try.f29.results.toList m [.code (bodyOf Try.f29)] (enter (ivA ofind.ps (x0, x1, ()))) = ofind.go  m x0 x1 := by kernel_rfl
theorem ofind.ret  (hs : SpecsOK Try.prog (ofind.specs ))  (x0 : (List (El TKey))) (x1 : (El TKey)) {m : Nat} {r : IV} (h : ofind.go  m x0 x1 = some (r, [])) : VE.Returns Try.prog 29 (ivA ofind.ps (x0, x1, ())) r :=
  returns_of_run (cfg := ofind.cfg ) (cfgOK_of mixed tab_ok hs .nil) rfl Try.func29 (body_some (by kernel_rfl)) (Nat.le_of_ble_eq_true (by kernel_rfl)) ((ofind.run_eq  m x0 x1).trans h)
abbrev ofind.Law : Prop := ∀ (x0 : (List (El TKey))) (x1 : (El TKey)), ofind.pre (x0, x1, ()) = true → VE.Returns Try.prog 29 (ivA ofind.ps (x0, x1, ())) (ofind.res (x0, x1, ()))
theorem ofind.mkR (H : ∀ (x0 : (List (El TKey))) (x1 : (El TKey)), ofind.pre (x0, x1, ()) = true → VE.Returns Try.prog 29 (ivA ofind.ps (x0, x1, ())) (ofind.res (x0, x1, ()))) : SpecOK Try.prog 29 ofind.sp :=
  specOf_ret Try.func29 (by kernel_rfl) (by kernel_rfl) fun (x : (List (El TKey)) × (El TKey) × Unit) hx => H (x.1) (x.2.1) hx
theorem ofind.mk  (hs : SpecsOK Try.prog (ofind.specs ))  (H : ∀ (x0 : (List (El TKey))) (x1 : (El TKey)), ofind.pre (x0, x1, ()) = true → ∃ m, ofind.go  m x0 x1 = some (ofind.res (x0, x1, ()), [])) : SpecOK Try.prog 29 ofind.sp :=
  ofind.mkR fun x0 x1 hx => (H x0 x1 hx).elim fun _ hm => ofind.ret  hs  x0 x1 hm

/-! ### triage/table.keys -/
abbrev keys.ps : List AK := [.d false (.sl THost)]
def keys.pre : ElA keys.ps → Bool := fun (x : (List (El THost)) × Unit) => fits (.sl THost) (x.1) && (true)
def keys.res : ElA keys.ps → IV := fun (x : (List (El THost)) × Unit) => (fun l => .c (.sl TKey (keysL l))) x.1
def keys.sp : ISpec := spOf keys.ps keys.pre keys.res
abbrev keys.OK : Prop := SpecOK Try.prog 30 keys.sp
noncomputable def keys.body : Code := bodyOf Try.f30
noncomputable def keys.rs : List ResultVar := Try.f30.results.toList
def keys.live : List (Nat × Live) := [(3, ⟨[(3, .arr 57 TKey), (6, .sl THost), (7, .plain), (8, .plain)], []⟩)]
noncomputable def keys.specs  : List (Nat × (List Bool × ISpec)) := []
noncomputable def keys.ospecs  : List (Nat × OS) := []
noncomputable def keys.cfg  : Cfg := ⟨lkp tab, lkp (keys.specs ), lkp keys.live, ⟨lkp (keys.ospecs ), [], none, false, []⟩⟩
noncomputable def keys.l1  (m : Nat) (x0 : List (El THost)) (x1 : Int) (x2 : Int) (x3 : List (El TKey)) : R := run (keys.cfg ) 20 keys.rs m ((todoR 3 keys.body []).getD []) ⟨ofList (.c .junk) [(3, (.c (.sref 510))), (6, (.c (.sl THost x0))), (7, (.c (.v (.int .i64 x1)))), (8, (.c (.v (.int .i64 x2))))], ofList none [(510, some (.arr 57 TKey x3 false))], ofList false [(510, true)]⟩
noncomputable def keys.go  (m : Nat) (x0 : (List (El THost))) : R := run (keys.cfg ) 20 keys.rs m [.code keys.body] (enter (ivA keys.ps (x0, ())))
theorem keys.start  (m : Nat) (x0 : (List (El THost))) : keys.go  (m + 1) x0 =
  keys.l1  m x0 ((List.length x0) : Int) (0 : Int) ([] : List (El TKey)) := by kernel_rfl
theorem keys.s1  (m : Nat) (x0 : List (El THost)) (x1 : Int) (x2 : Int) (x3 : List (El TKey)) : keys.l1  (m + 1) x0 x1 x2 x3 =
  cond (decide (x2 < x1)) (
   test (decide ((0 : Int) ≤ x2)) (
    test (decide (x2 < ((List.length x0) : Int))) (
     test (decide (((List.length x3) + (List.length ((((rdEl THost x0 (Int.toNat x2))).1, (0 : Int)) :: ([] : List (El TKey))))) ≤ (lim 16))) (
      keys.l1  m x0 x1 (IntKind.i64.wrap (x2 + (1 : Int))) (x3 ++ ((((rdEl THost x0 (Int.toNat x2))).1, (0 : Int)) :: ([] : List (El TKey)))))))) (
   some ((.c (.sl TKey x3)), [])) := by kernel_rfl
theorem keys.run_eq  (m : Nat) (x0 : (List (El THost))) : run (keys.cfg ) Try.f30.ntmps Try.f30.results.toList m [.code (bodyOf Try.f30)] (enter (ivA keys.ps (x0, ()))) = keys.go  m x0 := by kernel_rfl
theorem keys.ret  (hs : SpecsOK Try.prog (keys.specs ))  (x0 : (List (El THost))) {m : Nat} {r : IV} (h : keys.go  m x0 = some (r, [])) : VE.Returns Try.prog 30 (ivA keys.ps (x0, ())) r :=
  returns_of_run (cfg := keys.cfg ) (cfgOK_of mixed tab_ok hs .nil) rfl Try.func30 (body_some (by kernel_rfl)) (Nat.le_of_ble_eq_true (by kernel_rfl)) ((keys.run_eq  m x0).trans h)
abbrev keys.Law : Prop := ∀ (x0 : (List (El THost))), keys.pre (x0, ()) = true → VE.Returns Try.prog 30 (ivA keys.ps (x0, ())) (keys.res (x0, ()))
theorem keys.mkR (H : ∀ (x0 : (List (El THost))), keys.pre (x0, ()) = true → VE.Returns Try.prog 30 (ivA keys.ps (x0, ())) (keys.res (x0, ()))) : SpecOK Try.prog 30 keys.sp :=
  specOf_ret Try.func30 (by kernel_rfl) (by kernel_rfl) fun (x : (List (El THost)) × Unit) hx => H (x.1) hx
theorem keys.mk  (hs : SpecsOK Try.prog (keys.specs ))  (H : ∀ (x0 : (List (El THost))), keys.pre (x0, ()) = true → ∃ m, keys.go  m x0 = some (keys.res (x0, ()), [])) : SpecOK Try.prog 30 keys.sp :=
  keys.mkR fun x0 hx => (H x0 hx).elim fun _ hm => keys.ret  hs  x0 hm

/-! ### triage/table.May$1 -/
abbrev notMay.ps : List AK := [.d true THost]
def notMay.pre : ElA notMay.ps → Bool := fun (x : (El THost) × Unit) => fits THost (x.1) && (true)
def notMay.res : ElA notMay.ps → IV := fun (x : (El THost) × Unit) => (fun h => vb (nmB h)) x.1
def notMay.sp : ISpec := spOf notMay.ps notMay.pre notMay.res
abbrev notMay.OK : Prop := SpecOK Try.prog 36 notMay.sp
noncomputable def notMay.body : Code := bodyOf Try.f36
noncomputable def notMay.rs : List ResultVar := Try.f36.results.toList
def notMay.live : List (Nat × Live) := []
noncomputable def notMay.specs  : List (Nat × (List Bool × ISpec)) := [(28, ([], may.sp))]
noncomputable def notMay.ospecs  : List (Nat × OS) := []
noncomputable def notMay.cfg  : Cfg := ⟨lkp tab, lkp (notMay.specs ), lkp notMay.live, ⟨lkp (notMay.ospecs ), [], none, false, []⟩⟩
noncomputable def notMay.go  (m : Nat) (x0 : (El THost)) : R := run (notMay.cfg ) 6 notMay.rs m [.code notMay.body] (enter (ivA notMay.ps (x0, ())))
theorem notMay.start  (m : Nat) (x0 : (El THost)) : notMay.go  (m + 1) x0 =
  test (may.pre (x0, Unit.unit)) (
   some ((.c (.v (.bool (Bool.not (mayB x0))))), [])) := by kernel_rfl
theorem notMay.run_eq  (m : Nat) (x0 : (El THost)) : run (notMay.cfg ) Try.f36.ntmps Try.f36.results.toList m [.code (bodyOf Try.f36)] (enter (ivA notMay.ps (x0, ()))) = notMay.go  m x0 := by kernel_rfl
theorem notMay.ret  (hs : SpecsOK Try.prog (notMay.specs ))  (x0 : (El THost)) {m : Nat} {r : IV} (h : notMay.go  m x0 = some (r, [])) : VE.Returns Try.prog 36 (ivA notMay.ps (x0, ())) r :=
  returns_of_run (cfg := notMay.cfg ) (cfgOK_of mixed tab_ok hs .nil) rfl Try.func36 (body_some (by kernel_rfl)) (Nat.le_of_ble_eq_true (by kernel_rfl)) ((notMay.run_eq  m x0).trans h)
abbrev notMay.Law : Prop := ∀ (x0 : (El THost)), notMay.pre (x0, ()) = true → VE.Returns Try.prog 36 (ivA notMay.ps (x0, ())) (notMay.res (x0, ()))
theorem notMay.mkR (H : ∀ (x0 : (El THost)), notMay.pre (x0, ()) = true → VE.Returns Try.prog 36 (ivA notMay.ps (x0, ())) (notMay.res (x0, ()))) : SpecOK Try.prog 36 notMay.sp :=
  specOf_ret Try.func36 (by kernel_rfl) (by kernel_rfl) fun (x : (El THost) × Unit) hx => H (x.1) hx
theorem notMay.mk  (hs : SpecsOK Try.prog (notMay.specs ))  (H : ∀ (x0 : (El THost)), notMay.pre (x0, ()) = true → ∃ m, notMay.go  m x0 = some (notMay.res (x0, ()), [])) : SpecOK Try.prog 36 notMay.sp :=
  notMay.mkR fun x0 hx => (H x0 hx).elim fun _ hm => notMay.ret  hs  x0 hm

/-! ### slices.IndexFunc(()triage/api.Host,triage/api.Host) -/
abbrev ixNM.ps : List AK := [.d false (.sl THost), .f 36 []]
def ixNM.pre : ElA ixNM.ps → Bool := fun (x : (List (El THost)) × Unit × Unit) => fits (.sl THost) (x.1) && (true)
def ixNM.res : ElA ixNM.ps → IV := fun (x : (List (El THost)) × Unit × Unit) => (fun l _ => vi .i64 (ixOf nmB l)) x.1 x.2.1
def ixNM.sp : ISpec := spOf ixNM.ps ixNM.pre ixNM.res
abbrev ixNM.OK : Prop := SpecOK Try.prog 39 ixNM.sp
noncomputable def ixNM.body : Code := bodyOf Try.f39
noncomputable def ixNM.rs : List ResultVar := Try.f39.results.toList
def ixNM.live : List (Nat × Live) := [(2, ⟨[(0, .sl THost), (1, .plain), (7, .plain), (8, .plain)], []⟩)]
noncomputable def ixNM.specs  : List (Nat × (List Bool × ISpec)) := [(36, ([], notMay.sp))]
noncomputable def ixNM.ospecs  : List (Nat × OS) := []
noncomputable def ixNM.cfg  : Cfg := ⟨lkp tab, lkp (ixNM.specs ), lkp ixNM.live, ⟨lkp (ixNM.ospecs ), [], none, false, []⟩⟩
noncomputable def ixNM.l1  (m : Nat) (x0 : List (El THost)) (x1 : Int) (x2 : Int) : R := run (ixNM.cfg ) 19 ixNM.rs m ((todoR 2 ixNM.body []).getD []) ⟨ofList (.c .junk) [(0, (.c (.sl THost x0))), (1, (.c (.fn 36 []))), (7, (.c (.v (.int .i64 x1)))), (8, (.c (.v (.int .i64 x2))))], ofList none [], ofList false []⟩
noncomputable def ixNM.go  (m : Nat) (x0 : (List (El THost))) (x1 : Unit) : R := run (ixNM.cfg ) 19 ixNM.rs m [.code ixNM.body] (enter (ivA ixNM.ps (x0, x1, ())))
theorem ixNM.start  (m : Nat) (x0 : (List (El THost))) (x1 : Unit) : ixNM.go  (m + 1) x0 x1 =
  ixNM.l1  m x0 ((List.length x0) : Int) (0 : Int) := by kernel_rfl
theorem ixNM.s1  (m : Nat) (x0 : List (El THost)) (x1 : Int) (x2 : Int) : ixNM.l1  (m + 1) x0 x1 x2 =
  cond (decide (x2 < x1)) (
   test (decide ((0 : Int) ≤ x2)) (
    test (decide (x2 < ((List.length x0) : Int))) (
     test (notMay.pre (((rdEl THost x0 (Int.toNat x2))), Unit.unit)) (
      cond (nmB ((rdEl THost x0 (Int.toNat x2)))) (
       some ((.c (.v (.int .i64 x2))), [])) (
       ixNM.l1  m x0 x1 (IntKind.i64.wrap (x2 + (1 : Int)))))))) (
   some ((.c (.v (.int .i64 (-(1 : Int))))), [])) := by kernel_rfl
theorem ixNM.run_eq  (m : Nat) (x0 : (List (El THost))) (x1 : Unit) : run (ixNM.cfg ) Try.f39.ntmps Try.f39.results.toList m [.code (bodyOf Try.f39)] (enter (ivA ixNM.ps (x0, x1, ()))) = ixNM.go  m x0 x1 := by kernel_rfl
theorem ixNM.ret  (hs : SpecsOK Try.prog (ixNM.specs ))  (x0 : (List (El THost))) (x1 : Unit) {m : Nat} {r : IV} (h : ixNM.go  m x0 x1 = some (r, [])) : VE.Returns Try.prog 39 (ivA ixNM.ps (x0, x1, ())) r :=
  returns_of_run (cfg := ixNM.cfg ) (cfgOK_of mixed tab_ok hs .nil) rfl Try.func39 (body_some (by kernel_rfl)) (Nat.le_of_ble_eq_true (by kernel_rfl)) ((ixNM.run_eq  m x0 x1).trans h)
abbrev ixNM.Law : Prop := ∀ (x0 : (List (El THost))) (x1 : Unit), ixNM.pre (x0, x1, ()) = true → VE.Returns Try.prog 39 (ivA ixNM.ps (x0, x1, ())) (ixNM.res (x0, x1, ()))
theorem ixNM.mkR (H : ∀ (x0 : (List (El THost))) (x1 : Unit), ixNM.pre (x0, x1, ()) = true → VE.Returns Try.prog 39 (ivA ixNM.ps (x0, x1, ())) (ixNM.res (x0, x1, ()))) : SpecOK Try.prog 39 ixNM.sp :=
  specOf_ret Try.func39 (by kernel_rfl) (by kernel_rfl) fun (x : (List (El THost)) × Unit × Unit) hx => H (x.1) (x.2.1) hx
theorem ixNM.mk  (hs : SpecsOK Try.prog (ixNM.specs ))  (H : ∀ (x0 : (List (El THost))) (x1 : Unit), ixNM.pre (x0, x1, ()) = true → ∃ m, ixNM.go  m x0 x1 = some (ixNM.res (x0, x1, ()), [])) : SpecOK Try.prog 39 ixNM.sp :=
  ixNM.mkR fun x0 x1 hx => (H x0 x1 hx).elim fun _ hm => ixNM.ret  hs  x0 x1 hm

/-! ### slices.ContainsFunc(()triage/api.Host,triage/api.Host) -/
abbrev cfNM.ps : List AK := [.d false (.sl THost), .f 36 []]
def cfNM.pre : ElA cfNM.ps → Bool := fun (x : (List (El THost)) × Unit × Unit) => fits (.sl THost) (x.1) && (true)
def cfNM.res : ElA cfNM.ps → IV := fun (x : (List (El THost)) × Unit × Unit) => (fun l _ => vb (List.any l nmB)) x.1 x.2.1
def cfNM.sp : ISpec := spOf cfNM.ps cfNM.pre cfNM.res
abbrev cfNM.OK : Prop := SpecOK Try.prog 35 cfNM.sp
noncomputable def cfNM.body : Code := bodyOf Try.f35
noncomputable def cfNM.rs : List ResultVar := Try.f35.results.toList
def cfNM.live : List (Nat × Live) := []
noncomputable def cfNM.specs  : List (Nat × (List Bool × ISpec)) := [(39, ([], ixNM.sp))]
noncomputable def cfNM.ospecs  : List (Nat × OS) := []
noncomputable def cfNM.cfg  : Cfg := ⟨lkp tab, lkp (cfNM.specs ), lkp cfNM.live, ⟨lkp (cfNM.ospecs ), [], none, false, []⟩⟩
noncomputable def cfNM.go  (m : Nat) (x0 : (List (El THost))) (x1 : Unit) : R := run (cfNM.cfg ) 9 cfNM.rs m [.code cfNM.body] (enter (ivA cfNM.ps (x0, x1, ())))
theorem cfNM.start  (m : Nat) (x0 : (List (El THost))) (x1 : Unit) : cfNM.go  (m + 1) x0 x1 =
  test (ixNM.pre (x0, (Unit.unit, Unit.unit))) (
   some ((.c (.v (.bool (decide ((ixOf nmB x0) ≥ (0 : Int)))))), [])) := by kernel_rfl
theorem cfNM.run_eq  (m : Nat) (x0 : (List (El THost))) (x1 : Unit) : run (cfNM.cfg ) Try.f35.ntmps Try.f35.results.toList m [.code (bodyOf Try.f35)] (enter (ivA cfNM.ps (x0, x1, ()))) = cfNM.go  m x0 x1 := by kernel_rfl
theorem cfNM.ret  (hs : SpecsOK Try.prog (cfNM.specs ))  (x0 : (List (El THost))) (x1 : Unit) {m : Nat} {r : IV} (h : cfNM.go  m x0 x1 = some (r, [])) : VE.Returns Try.prog 35 (ivA cfNM.ps (x0, x1, ())) r :=
  returns_of_run (cfg := cfNM.cfg ) (cfgOK_of mixed tab_ok hs .nil) rfl Try.func35 (body_some (by kernel_rfl)) (Nat.le_of_ble_eq_true (by kernel_rfl)) ((cfNM.run_eq  m x0 x1).trans h)
abbrev cfNM.Law : Prop := ∀ (x0 : (List (El THost))) (x1 : Unit), cfNM.pre (x0, x1, ()) = true → VE.Returns Try.prog 35 (ivA cfNM.ps (x0, x1, ())) (cfNM.res (x0, x1, ()))
theorem cfNM.mkR (H : ∀ (x0 : (List (El THost))) (x1 : Unit), cfNM.pre (x0, x1, ()) = true → VE.Returns Try.prog 35 (ivA cfNM.ps (x0, x1, ())) (cfNM.res (x0, x1, ()))) : SpecOK Try.prog 35 cfNM.sp :=
  specOf_ret Try.func35 (by kernel_rfl) (by kernel_rfl) fun (x : (List (El THost)) × Unit × Unit) hx => H (x.1) (x.2.1) hx
theorem cfNM.mk  (hs : SpecsOK Try.prog (cfNM.specs ))  (H : ∀ (x0 : (List (El THost))) (x1 : Unit), cfNM.pre (x0, x1, ()) = true → ∃ m, cfNM.go  m x0 x1 = some (cfNM.res (x0, x1, ()), [])) : SpecOK Try.prog 35 cfNM.sp :=
  cfNM.mkR fun x0 x1 hx => (H x0 x1 hx).elim fun _ hm => cfNM.ret  hs  x0 x1 hm

/-! ### triage/table.May -/
abbrev mayT.ps : List AK := [.d false (.sl THost)]
def mayT.pre : ElA mayT.ps → Bool := fun (x : (List (El THost)) × Unit) => fits (.sl THost) (x.1) && (true)
def mayT.res : ElA mayT.ps → IV := fun (x : (List (El THost)) × Unit) => (fun l => vb (mayTB l)) x.1
def mayT.sp : ISpec := spOf mayT.ps mayT.pre mayT.res
abbrev mayT.OK : Prop := SpecOK Try.prog 17 mayT.sp
noncomputable def mayT.body : Code := bodyOf Try.f17
noncomputable def mayT.rs : List ResultVar := Try.f17.results.toList
def mayT.live : List (Nat × Live) := []
noncomputable def mayT.specs  : List (Nat × (List Bool × ISpec)) := [(30, ([], keys.sp)), (34, ([], rising.sp)), (35, ([], cfNM.sp))]
noncomputable def mayT.ospecs  : List (Nat × OS) := []
noncomputable def mayT.cfg  : Cfg := ⟨lkp tab, lkp (mayT.specs ), lkp mayT.live, ⟨lkp (mayT.ospecs ), [], none, false, []⟩⟩
noncomputable def mayT.go  (m : Nat) (x0 : (List (El THost))) : R := run (mayT.cfg ) 16 mayT.rs m [.code mayT.body] (enter (ivA mayT.ps (x0, ())))
theorem mayT.start  (m : Nat) (x0 : (List (El THost))) : mayT.go  (m + 1) x0 =
  cond (decide (((List.length x0) : Int) ≤ (64 : Int))) (
   test (keys.pre (x0, Unit.unit)) (
    test (rising.pre ((keysL x0), Unit.unit)) (
     cond (risesK (keysL x0)) (
      test (cfNM.pre (x0, (Unit.unit, Unit.unit))) (
       some ((.c (.v (.bool (Bool.not (List.any x0 nmB))))), []))) (
      some ((.c (.v (.bool false))), []))))) (
   some ((.c (.v (.bool false))), [])) := by kernel_rfl
theorem mayT.run_eq  (m : Nat) (x0 : (List (El THost))) : run (mayT.cfg ) Try.f17.ntmps Try.f17.results.toList m [.code (bodyOf Try.f17)] (enter (ivA mayT.ps (x0, ()))) = mayT.go  m x0 := by kernel_rfl
theorem mayT.ret  (hs : SpecsOK Try.prog (mayT.specs ))  (x0 : (List (El THost))) {m : Nat} {r : IV} (h : mayT.go  m x0 = some (r, [])) : VE.Returns Try.prog 17 (ivA mayT.ps (x0, ())) r :=
  returns_of_run (cfg := mayT.cfg ) (cfgOK_of mixed tab_ok hs .nil) rfl Try.func17 (body_some (by kernel_rfl)) (Nat.le_of_ble_eq_true (by kernel_rfl)) ((mayT.run_eq  m x0).trans h)
abbrev mayT.Law : Prop := ∀ (x0 : (List (El THost))), mayT.pre (x0, ()) = true → VE.Returns Try.prog 17 (ivA mayT.ps (x0, ())) (mayT.res (x0, ()))
theorem mayT.mkR (H : ∀ (x0 : (List (El THost))), mayT.pre (x0, ()) = true → VE.Returns Try.prog 17 (ivA mayT.ps (x0, ())) (mayT.res (x0, ()))) : SpecOK Try.prog 17 mayT.sp :=
  specOf_ret Try.func17 (by kernel_rfl) (by kernel_rfl) fun (x : (List (El THost)) × Unit) hx => H (x.1) hx
theorem mayT.mk  (hs : SpecsOK Try.prog (mayT.specs ))  (H : ∀ (x0 : (List (El THost))), mayT.pre (x0, ()) = true → ∃ m, mayT.go  m x0 = some (mayT.res (x0, ()), [])) : SpecOK Try.prog 17 mayT.sp :=
  mayT.mkR fun x0 hx => (H x0 hx).elim fun _ hm => mayT.ret  hs  x0 hm

/-! ### triage/triageref1.MayTable -/
abbrev mayTR.ps : List AK := [.d false (.sl THost)]
def mayTR.pre : ElA mayTR.ps → Bool := fun (x : (List (El THost)) × Unit) => fits (.sl THost) (x.1) && (true)
def mayTR.res : ElA mayTR.ps → IV := fun (x : (List (El THost)) × Unit) => (fun l => vb (mayTB l)) x.1
def mayTR.sp : ISpec := spOf mayTR.ps mayTR.pre mayTR.res
abbrev mayTR.OK : Prop := SpecOK Try.prog 9 mayTR.sp
noncomputable def mayTR.body : Code := bodyOf Try.f9
noncomputable def mayTR.rs : List ResultVar := Try.f9.results.toList
def mayTR.live : List (Nat × Live) := [(2, ⟨[(0, .sl THost), (5, .sl THost), (6, .plain), (7, .plain)], []⟩)]
noncomputable def mayTR.specs  : List (Nat × (List Bool × ISpec)) := [(13, ([], mayR.sp))]
noncomputable def mayTR.ospecs  : List (Nat × OS) := []
noncomputable def mayTR.cfg  : Cfg := ⟨lkp tab, lkp (mayTR.specs ), lkp mayTR.live, ⟨lkp (mayTR.ospecs ), [], none, false, []⟩⟩
noncomputable def mayTR.l1  (m : Nat) (x0 : List (El THost)) (x1 : List (El THost)) (x2 : Int) (x3 : Int) : R := run (mayTR.cfg ) 34 mayTR.rs m ((todoR 2 mayTR.body []).getD []) ⟨ofList (.c .junk) [(0, (.c (.sl THost x0))), (5, (.c (.sl THost x1))), (6, (.c (.v (.int .i64 x2)))), (7, (.c (.v (.int .i64 x3))))], ofList none [], ofList false []⟩
noncomputable def mayTR.go  (m : Nat) (x0 : (List (El THost))) : R := run (mayTR.cfg ) 34 mayTR.rs m [.code mayTR.body] (enter (ivA mayTR.ps (x0, ())))
theorem mayTR.start  (m : Nat) (x0 : (List (El THost))) : mayTR.go  (m + 1) x0 =
  mayTR.l1  m x0 x0 ((List.length x0) : Int) (0 : Int) := by kernel_rfl
theorem mayTR.s1  (m : Nat) (x0 : List (El THost)) (x1 : List (El THost)) (x2 : Int) (x3 : Int) : mayTR.l1  (m + 1) x0 x1 x2 x3 =
  cond (decide (x3 < x2)) (
   test (decide ((0 : Int) ≤ x3)) (
    test (decide (x3 < ((List.length x1) : Int))) (
     test (mayR.pre (((rdEl THost x1 (Int.toNat x3))), Unit.unit)) (
      cond (Bool.not (mayB ((rdEl THost x1 (Int.toNat x3))))) (
       some ((.c (.v (.bool false))), [])) (
       cond (decide (x3 > (0 : Int))) (
        test (decide ((0 : Int) ≤ (IntKind.i64.wrap (x3 - (1 : Int))))) (
         test (decide ((IntKind.i64.wrap (x3 - (1 : Int))) < ((List.length x0) : Int))) (
          cond (decide (((rdEl THost x1 (Int.toNat x3))).1 ≤ ((rdEl THost x0 (Int.toNat (IntKind.i64.wrap (x3 - (1 : Int)))))).1)) (
           some ((.c (.v (.bool false))), [])) (
           mayTR.l1  m x0 x1 x2 (IntKind.i64.wrap (x3 + (1 : Int))))))) (
        mayTR.l1  m x0 x1 x2 (IntKind.i64.wrap (x3 + (1 : Int))))))))) (
   some ((.c (.v (.bool (decide (((List.length x0) : Int) ≤ (64 : Int)))))), [])) := by kernel_rfl
theorem mayTR.run_eq  (m : Nat) (x0 : (List (El THost))) : run (mayTR.cfg ) Try.f9.ntmps Try.f9.results.toList m [.code (bodyOf Try.f9)] (enter (ivA mayTR.ps (x0, ()))) = mayTR.go  m x0 := by kernel_rfl
theorem mayTR.ret  (hs : SpecsOK Try.prog (mayTR.specs ))  (x0 : (List (El THost))) {m : Nat} {r : IV} (h : mayTR.go  m x0 = some (r, [])) : VE.Returns Try.prog 9 (ivA mayTR.ps (x0, ())) r :=
  returns_of_run (cfg := mayTR.cfg ) (cfgOK_of mixed tab_ok hs .nil) rfl Try.func9 (body_some (by kernel_rfl)) (Nat.le_of_ble_eq_true (by kernel_rfl)) ((mayTR.run_eq  m x0).trans h)
abbrev mayTR.Law : Prop := ∀ (x0 : (List (El THost))), mayTR.pre (x0, ()) = true → VE.Returns Try.prog 9 (ivA mayTR.ps (x0, ())) (mayTR.res (x0, ()))
theorem mayTR.mkR (H : ∀ (x0 : (List (El THost))), mayTR.pre (x0, ()) = true → VE.Returns Try.prog 9 (ivA mayTR.ps (x0, ())) (mayTR.res (x0, ()))) : SpecOK Try.prog 9 mayTR.sp :=
  specOf_ret Try.func9 (by kernel_rfl) (by kernel_rfl) fun (x : (List (El THost)) × Unit) hx => H (x.1) hx
theorem mayTR.mk  (hs : SpecsOK Try.prog (mayTR.specs ))  (H : ∀ (x0 : (List (El THost))), mayTR.pre (x0, ()) = true → ∃ m, mayTR.go  m x0 = some (mayTR.res (x0, ()), [])) : SpecOK Try.prog 9 mayTR.sp :=
  mayTR.mkR fun x0 hx => (H x0 hx).elim fun _ hm => mayTR.ret  hs  x0 hm

/-! ### triage/table.Find$1 -/
abbrev idF.ps : List AK := [.d true THost, .p (.int .i64)]
def idF.pre : ElA idF.ps → Bool := fun (x : (El THost) × Int × Unit) => fits THost (x.1) && (fits (.int .i64) (x.2.1) && (true))
def idF.res : ElA idF.ps → IV := fun (x : (El THost) × Int × Unit) => (fun h i => vb (idH i h)) x.1 x.2.1
def idF.sp : ISpec := spOf idF.ps idF.pre idF.res
abbrev idF.OK : Prop := SpecOK Try.prog 40 idF.sp
noncomputable def idF.body : Code := bodyOf Try.f40
noncomputable def idF.rs : List ResultVar := Try.f40.results.toList
def idF.live : List (Nat × Live) := []
noncomputable def idF.specs  : List (Nat × (List Bool × ISpec)) := []
noncomputable def idF.ospecs  : List (Nat × OS) := []
noncomputable def idF.cfg  : Cfg := ⟨lkp tab, lkp (idF.specs ), lkp idF.live, ⟨lkp (idF.ospecs ), [], none, false, []⟩⟩
noncomputable def idF.go  (m : Nat) (x0 : (El THost)) (x1 : Int) : R := run (idF.cfg ) 8 idF.rs m [.code idF.body] (enter (ivA idF.ps (x0, x1, ())))
theorem idF.start  (m : Nat) (x0 : (El THost)) (x1 : Int) : idF.go  (m + 1) x0 x1 =
  some ((.c (.v (.bool (x0.1 == x1)))), []) := by kernel_rfl
theorem idF.run_eq  (m : Nat) (x0 : (El THost)) (x1 : Int) : run (idF.cfg ) Try.f40.ntmps Try.f40.results.toList m [.code (bodyOf Try.f40)] (enter (ivA idF.ps (x0, x1, ()))) = idF.go  m x0 x1 := by kernel_rfl
theorem idF.ret  (hs : SpecsOK Try.prog (idF.specs ))  (x0 : (El THost)) (x1 : Int) {m : Nat} {r : IV} (h : idF.go  m x0 x1 = some (r, [])) : VE.Returns Try.prog 40 (ivA idF.ps (x0, x1, ())) r :=
  returns_of_run (cfg := idF.cfg ) (cfgOK_of mixed tab_ok hs .nil) rfl Try.func40 (body_some (by kernel_rfl)) (Nat.le_of_ble_eq_true (by kernel_rfl)) ((idF.run_eq  m x0 x1).trans h)
abbrev idF.Law : Prop := ∀ (x0 : (El THost)) (x1 : Int), idF.pre (x0, x1, ()) = true → VE.Returns Try.prog 40 (ivA idF.ps (x0, x1, ())) (idF.res (x0, x1, ()))
theorem idF.mkR (H : ∀ (x0 : (El THost)) (x1 : Int), idF.pre (x0, x1, ()) = true → VE.Returns Try.prog 40 (ivA idF.ps (x0, x1, ())) (idF.res (x0, x1, ()))) : SpecOK Try.prog 40 idF.sp :=
  specOf_ret Try.func40 (by kernel_rfl) (by kernel_rfl) fun (x : (El THost) × Int × Unit) hx => H (x.1) (x.2.1) hx
theorem idF.mk  (hs : SpecsOK Try.prog (idF.specs ))  (H : ∀ (x0 : (El THost)) (x1 : Int), idF.pre (x0, x1, ()) = true → ∃ m, idF.go  m x0 x1 = some (idF.res (x0, x1, ()), [])) : SpecOK Try.prog 40 idF.sp :=
  idF.mkR fun x0 x1 hx => (H x0 x1 hx).elim fun _ hm => idF.ret  hs  x0 x1 hm

/-! ### slices.IndexFunc(()triage/api.Host,triage/api.Host) -/
abbrev ixId.ps : List AK := [.d false (.sl THost), .f 40 [(true, (.int .i64))]]
def ixId.pre : ElA ixId.ps → Bool := fun (x : (List (El THost)) × (Int × Unit) × Unit) => fits (.sl THost) (x.1) && (fits (.int .i64) (x.2.1.1) && (true))
def ixId.res : ElA ixId.ps → IV := fun (x : (List (El THost)) × (Int × Unit) × Unit) => (fun l x => vi .i64 (ixOf (idH x.1) l)) x.1 x.2.1
def ixId.sp : ISpec := spOf ixId.ps ixId.pre ixId.res
abbrev ixId.OK : Prop := SpecOK Try.prog 39 ixId.sp
noncomputable def ixId.body : Code := bodyOf Try.f39
noncomputable def ixId.rs : List ResultVar := Try.f39.results.toList
def ixId.live : List (Nat × Live) := [(2, ⟨[(0, .sl THost), (1, .plain), (7, .plain), (8, .plain)], []⟩)]
noncomputable def ixId.specs  : List (Nat × (List Bool × ISpec)) := [(40, ([], idF.sp))]
noncomputable def ixId.ospecs  : List (Nat × OS) := []
noncomputable def ixId.cfg  : Cfg := ⟨lkp tab, lkp (ixId.specs ), lkp ixId.live, ⟨lkp (ixId.ospecs ), [], none, false, []⟩⟩
noncomputable def ixId.l1  (m : Nat) (x0 : List (El THost)) (x1 : Int) (x2 : Int) (x3 : Int) : R := run (ixId.cfg ) 19 ixId.rs m ((todoR 2 ixId.body []).getD []) ⟨ofList (.c .junk) [(0, (.c (.sl THost x0))), (1, (.c (.fn 40 [(.snap [(.v (.int .i64 x1))] 0)]))), (7, (.c (.v (.int .i64 x2)))), (8, (.c (.v (.int .i64 x3))))], ofList none [], ofList false []⟩
noncomputable def ixId.go  (m : Nat) (x0 : (List (El THost))) (x1 : (Int × Unit)) : R := run (ixId.cfg ) 19 ixId.rs m [.code ixId.body] (enter (ivA ixId.ps (x0, x1, ())))
theorem ixId.start  (m : Nat) (x0 : (List (El THost))) (x1 : (Int × Unit)) : ixId.go  (m + 1) x0 x1 =
  ixId.l1  m x0 x1.1 ((List.length x0) : Int) (0 : Int) := by kernel_rfl
theorem ixId.s1  (m : Nat) (x0 : List (El THost)) (x1 : Int) (x2 : Int) (x3 : Int) : ixId.l1  (m + 1) x0 x1 x2 x3 =
  cond (decide (x3 < x2)) (
   test (decide ((0 : Int) ≤ x3)) (
    test (decide (x3 < ((List.length x0) : Int))) (
     test (idF.pre (((rdEl THost x0 (Int.toNat x3))), (x1, Unit.unit))) (
      cond (idH x1 ((rdEl THost x0 (Int.toNat x3)))) (
       some ((.c (.v (.int .i64 x3))), [])) (
       ixId.l1  m x0 x1 x2 (IntKind.i64.wrap (x3 + (1 : Int)))))))) (
   some ((.c (.v (.int .i64 (-(1 : Int))))), [])) := by kernel_rfl
theorem ixId.run_eq  (m : Nat) (x0 : (List (El THost))) (x1 : (Int × Unit)) : run (ixId.cfg ) Try.f39.ntmps Try.f39.results.toList m [.code (bodyOf Try.f39)] (enter (ivA ixId.ps (x0, x1, ()))) = ixId.go  m x0 x1 := by kernel_rfl
theorem ixId.ret  (hs : SpecsOK Try.prog (ixId.specs ))  (x0 : (List (El THost))) (x1 : (Int × Unit)) {m : Nat} {r : IV} (h : ixId.go  m x0 x1 = some (r, [])) : VE.Returns Try.prog 39 (ivA ixId.ps (x0, x1, ())) r :=
  returns_of_run (cfg := ixId.cfg ) (cfgOK_of mixed tab_ok hs .nil) rfl Try.func39 (body_some (by kernel_rfl)) (Nat.le_of_ble_eq_true (by kernel_rfl)) ((ixId.run_eq  m x0 x1).trans h)
abbrev ixId.Law : Prop := ∀ (x0 : (List (El THost))) (x1 : (Int × Unit)), ixId.pre (x0, x1, ()) = true → VE.Returns Try.prog 39 (ivA ixId.ps (x0, x1, ())) (ixId.res (x0, x1, ()))
theorem ixId.mkR (H : ∀ (x0 : (List (El THost))) (x1 : (Int × Unit)), ixId.pre (x0, x1, ()) = true → VE.Returns Try.prog 39 (ivA ixId.ps (x0, x1, ())) (ixId.res (x0, x1, ()))) : SpecOK Try.prog 39 ixId.sp :=
  specOf_ret Try.func39 (by kernel_rfl) (by kernel_rfl) fun (x : (List (El THost)) × (Int × Unit) × Unit) hx => H (x.1) (x.2.1) hx
theorem ixId.mk  (hs : SpecsOK Try.prog (ixId.specs ))  (H : ∀ (x0 : (List (El THost))) (x1 : (Int × Unit)), ixId.pre (x0, x1, ()) = true → ∃ m, ixId.go  m x0 x1 = some (ixId.res (x0, x1, ()), [])) : SpecOK Try.prog 39 ixId.sp :=
  ixId.mkR fun x0 x1 hx => (H x0 x1 hx).elim fun _ hm => ixId.ret  hs  x0 x1 hm

/-! ### triage/table.Find -/
abbrev find.ps : List AK := [.d false (.sl THost), .d false (.int .i64)]
def find.pre : ElA find.ps → Bool := fun (x : (List (El THost)) × Int × Unit) => fits (.sl THost) (x.1) && (fits (.int .i64) (x.2.1) && (true))
def find.res : ElA find.ps → IV := fun (x : (List (El THost)) × Int × Unit) => (fun l i => vi .i64 (ixOf (idH i) l)) x.1 x.2.1
def find.sp : ISpec := spOf find.ps find.pre find.res
abbrev find.OK : Prop := SpecOK Try.prog 23 find.sp
noncomputable def find.body : Code := bodyOf Try.f23
noncomputable def find.rs : List ResultVar := Try.f23.results.toList
def find.live : List (Nat × Live) := []
noncomputable def find.specs  : List (Nat × (List Bool × ISpec)) := [(39, ([], ixId.sp))]
noncomputable def find.ospecs  : List (Nat × OS) := []
noncomputable def find.cfg  : Cfg := ⟨lkp tab, lkp (find.specs ), lkp find.live, ⟨lkp (find.ospecs ), [], none, false, []⟩⟩
noncomputable def find.go  (m : Nat) (x0 : (List (El THost))) (x1 : Int) : R := run (find.cfg ) 8 find.rs m [.code find.body] (enter (ivA find.ps (x0, x1, ())))
theorem find.start  (m : Nat) (x0 : (List (El THost))) (x1 : Int) : find.go  (m + 1) x0 x1 =
  test (ixId.pre (x0, ((x1, Unit.unit), Unit.unit))) (
   some ((.c (.v (.int .i64 (ixOf (idH x1) x0)))), [])) := by kernel_rfl
theorem find.run_eq  (m : Nat) (x0 : (List (El THost))) (x1 : Int) : run (find.cfg ) Try.f23.ntmps Try.f23.results.toList m [.code (bodyOf Try.f23)] (enter (ivA find.ps (x0, x1, ()))) = find.go  m x0 x1 := by kernel_rfl
theorem find.ret  (hs : SpecsOK Try.prog (find.specs ))  (x0 : (List (El THost))) (x1 : Int) {m : Nat} {r : IV} (h : find.go  m x0 x1 = some (r, [])) : VE.Returns Try.prog 23 (ivA find.ps (x0, x1, ())) r :=
  returns_of_run (cfg := find.cfg ) (cfgOK_of mixed tab_ok hs .nil) rfl Try.func23 (body_some (by kernel_rfl)) (Nat.le_of_ble_eq_true (by kernel_rfl)) ((find.run_eq  m x0 x1).trans h)
abbrev find.Law : Prop := ∀ (x0 : (List (El THost))) (x1 : Int), find.pre (x0, x1, ()) = true → VE.Returns Try.prog 23 (ivA find.ps (x0, x1, ())) (find.res (x0, x1, ()))
theorem find.mkR (H : ∀ (x0 : (List (El THost))) (x1 : Int), find.pre (x0, x1, ()) = true → VE.Returns Try.prog 23 (ivA find.ps (x0, x1, ())) (find.res (x0, x1, ()))) : SpecOK Try.prog 23 find.sp :=
  specOf_ret Try.func23 (by kernel_rfl) (by kernel_rfl) fun (x : (List (El THost)) × Int × Unit) hx => H (x.1) (x.2.1) hx
theorem find.mk  (hs : SpecsOK Try.prog (find.specs ))  (H : ∀ (x0 : (List (El THost))) (x1 : Int), find.pre (x0, x1, ()) = true → ∃ m, find.go  m x0 x1 = some (find.res (x0, x1, ()), [])) : SpecOK Try.prog 23 find.sp :=
  find.mkR fun x0 x1 hx => (H x0 x1 hx).elim fun _ hm => find.ret  hs  x0 x1 hm

/-! ### triage/triageref1.FindHost -/
abbrev findR.ps : List AK := [.d false (.sl THost), .d false (.int .i64)]
def findR.pre : ElA findR.ps → Bool := fun (x : (List (El THost)) × Int × Unit) => fits (.sl THost) (x.1) && (fits (.int .i64) (x.2.1) && (true))
def findR.res : ElA findR.ps → IV := fun (x : (List (El THost)) × Int × Unit) => (fun l i => vi .i64 (ixOf (idH i) l)) x.1 x.2.1
def findR.sp : ISpec := spOf findR.ps findR.pre findR.res
abbrev findR.OK : Prop := SpecOK Try.prog 14 findR.sp
noncomputable def findR.body : Code := bodyOf Try.f14
noncomputable def findR.rs : List ResultVar := Try.f14.results.toList
def findR.live : List (Nat × Live) := [(2, ⟨[(1, .plain), (7, .sl THost), (8, .plain), (9, .plain)], []⟩)]
noncomputable def findR.specs  : List (Nat × (List Bool × ISpec)) := []
noncomputable def findR.ospecs  : List (Nat × OS) := []
noncomputable def findR.cfg  : Cfg := ⟨lkp tab, lkp (findR.specs ), lkp findR.live, ⟨lkp (findR.ospecs ), [], none, false, []⟩⟩
noncomputable def findR.l1  (m : Nat) (x0 : Int) (x1 : List (El THost)) (x2 : Int) (x3 : Int) : R := run (findR.cfg ) 20 findR.rs m ((todoR 2 findR.body []).getD []) ⟨ofList (.c .junk) [(1, (.c (.v (.int .i64 x0)))), (7, (.c (.sl THost x1))), (8, (.c (.v (.int .i64 x2)))), (9, (.c (.v (.int .i64 x3))))], ofList none [], ofList false []⟩
noncomputable def findR.go  (m : Nat) (x0 : (List (El THost))) (x1 : Int) : R := run (findR.cfg ) 20 findR.rs m [.code findR.body] (enter (ivA findR.ps (x0, x1, ())))
theorem findR.start  (m : Nat) (x0 : (List (El THost))) (x1 : Int) : findR.go  (m + 1) x0 x1 =
  findR.l1  m x1 x0 ((List.length x0) : Int) (0 : Int) := by kernel_rfl
theorem findR.s1  (m : Nat) (x0 : Int) (x1 : List (El THost)) (x2 : Int) (x3 : Int) : findR.l1  (m + 1) x0 x1 x2 x3 =
  cond (decide (x3 < x2)) (
   test (decide ((0 : Int) ≤ x3)) (
    test (decide (x3 < ((List.length x1) : Int))) (
     cond (((rdEl THost x1 (Int.toNat x3))).1 == x0) (
      some ((.c (.v (.int .i64 x3))), [])) (
      findR.l1  m x0 x1 x2 (IntKind.i64.wrap (x3 + (1 : Int))))))) (
   some ((.c (.v (.int .i64 (-(1 : Int))))), [])) := by kernel_rfl
theorem findR.run_eq  (m : Nat) (x0 : (List (El THost))) (x1 : Int) : run (findR.cfg ) Try.f14.ntmps Try.f14.results.toList m [.code (bodyOf Try.f14)] (enter (ivA findR.ps (x0, x1, ()))) = findR.go  m x0 x1 := by kernel_rfl
theorem findR.ret  (hs : SpecsOK Try.prog (findR.specs ))  (x0 : (List (El THost))) (x1 : Int) {m : Nat} {r : IV} (h : findR.go  m x0 x1 = some (r, [])) : VE.Returns Try.prog 14 (ivA findR.ps (x0, x1, ())) r :=
  returns_of_run (cfg := findR.cfg ) (cfgOK_of mixed tab_ok hs .nil) rfl Try.func14 (body_some (by kernel_rfl)) (Nat.le_of_ble_eq_true (by kernel_rfl)) ((findR.run_eq  m x0 x1).trans h)
abbrev findR.Law : Prop := ∀ (x0 : (List (El THost))) (x1 : Int), findR.pre (x0, x1, ()) = true → VE.Returns Try.prog 14 (ivA findR.ps (x0, x1, ())) (findR.res (x0, x1, ()))
theorem findR.mkR (H : ∀ (x0 : (List (El THost))) (x1 : Int), findR.pre (x0, x1, ()) = true → VE.Returns Try.prog 14 (ivA findR.ps (x0, x1, ())) (findR.res (x0, x1, ()))) : SpecOK Try.prog 14 findR.sp :=
  specOf_ret Try.func14 (by kernel_rfl) (by kernel_rfl) fun (x : (List (El THost)) × Int × Unit) hx => H (x.1) (x.2.1) hx
theorem findR.mk  (hs : SpecsOK Try.prog (findR.specs ))  (H : ∀ (x0 : (List (El THost))) (x1 : Int), findR.pre (x0, x1, ()) = true → ∃ m, findR.go  m x0 x1 = some (findR.res (x0, x1, ()), [])) : SpecOK Try.prog 14 findR.sp :=
  findR.mkR fun x0 x1 hx => (H x0 x1 hx).elim fun _ hm => findR.ret  hs  x0 x1 hm

/-! ### triage/table.copied -/
abbrev copied.ps : List AK := [.d false (.sl THost)]
def copied.pre : ElA copied.ps → Bool := fun (x : (List (El THost)) × Unit) => fits (.sl THost) (x.1) && (true)
def copied.rv : ElA copied.ps → List RV := fun (x : (List (El THost)) × Unit) => [.m 34 THost ((fun l => l) x.1)]
def copied.res : ElA copied.ps → IV := fun x => oneOrTup (rvIVs 0 (copied.rv x))
def copied.back : ElA copied.ps → List (Nat × Box) := fun (x : (List (El THost)) × Unit) => rvBxs 0 (copied.rv x)
def copied.sp : OSpec := spO copied.ps copied.pre copied.res copied.back
abbrev copied.OK : Prop := SpecOKO Try.prog 32 copied.sp
noncomputable def copied.body : Code := bodyOf Try.f32
noncomputable def copied.rs : List ResultVar := Try.f32.results.toList
def copied.live : List (Nat × Live) := [(3, ⟨[(3, .arr 34 THost), (6, .sl THost), (7, .plain), (8, .plain)], []⟩)]
noncomputable def copied.specs  : List (Nat × (List Bool × ISpec)) := [(33, ([], copy.sp))]
noncomputable def copied.ospecs  : List (Nat × OS) := []
noncomputable def copied.cfg  : Cfg := ⟨lkp tab, lkp (copied.specs ), lkp copied.live, ⟨lkp (copied.ospecs ), oids 0 copied.ps, some ([.arr 34 THost], []), false, []⟩⟩
noncomputable def copied.l1  (m : Nat) (x0 : List (El THost)) (x1 : Int) (x2 : Int) (x3 : List (El THost)) : R := run (copied.cfg ) 19 copied.rs m ((todoR 3 copied.body []).getD []) ⟨ofList (.c .junk) [(3, (.c (.sref 510))), (6, (.c (.sl THost x0))), (7, (.c (.v (.int .i64 x1)))), (8, (.c (.v (.int .i64 x2))))], ofList none [(510, some (.arr 34 THost x3 false))], ofList false [(510, true)]⟩
noncomputable def copied.go  (m : Nat) (x0 : (List (El THost))) : R := run (copied.cfg ) 19 copied.rs m [.code copied.body] (enterO (ivAO 0 copied.ps (x0, ())) (bxAO 0 copied.ps (x0, ())))
theorem copied.start  (m : Nat) (x0 : (List (El THost))) : copied.go  (m + 1) x0 =
  copied.l1  m x0 ((List.length x0) : Int) (0 : Int) ([] : List (El THost)) := by kernel_rfl
theorem copied.s1  (m : Nat) (x0 : List (El THost)) (x1 : Int) (x2 : Int) (x3 : List (El THost)) : copied.l1  (m + 1) x0 x1 x2 x3 =
  cond (decide (x2 < x1)) (
   test (decide ((0 : Int) ≤ x2)) (
    test (decide (x2 < ((List.length x0) : Int))) (
     test (copy.pre (((rdEl THost x0 (Int.toNat x2))), Unit.unit)) (
      test (decide (((List.length x3) + (List.length (((rdEl THost x0 (Int.toNat x2))) :: ([] : List (El THost))))) ≤ (lim 80))) (
       copied.l1  m x0 x1 (IntKind.i64.wrap (x2 + (1 : Int))) (x3 ++ (((rdEl THost x0 (Int.toNat x2))) :: ([] : List (El THost))))))))) (
   some ((.c (.sref 115326)), [(115326, (.arr 34 THost x3 false))])) := by kernel_rfl
theorem copied.run_eq  (m : Nat) (x0 : (List (El THost))) : run (copied.cfg ) Try.f32.ntmps Try.f32.results.toList m [.code (bodyOf Try.f32)] (enterO (ivAO 0 copied.ps (x0, ())) (bxAO 0 copied.ps (x0, ()))) = copied.go  m x0 := by kernel_rfl
theorem copied.ret  (hs : SpecsOK Try.prog (copied.specs ))  (x0 : (List (El THost))) {m : Nat} {r : IV} {b : List (Nat × Box)} (h : copied.go  m x0 = some (r, b)) : VE.ReturnsO Try.prog 32 (ivAO 0 copied.ps (x0, ())) (bxAO 0 copied.ps (x0, ())) r b :=
  returnsO_of_run (cfg := copied.cfg ) (cfgOK_of mixed tab_ok hs .nil) rfl Try.func32 (body_some (by kernel_rfl)) (Nat.le_of_ble_eq_true (by kernel_rfl)) (fun _ _ _ h => oids_mem h) ((copied.run_eq  m x0).trans h)
abbrev copied.Law : Prop := ∀ (x0 : (List (El THost))), copied.pre (x0, ()) = true → VE.ReturnsO Try.prog 32 (ivAO 0 copied.ps (x0, ())) (bxAO 0 copied.ps (x0, ())) (copied.res (x0, ())) (copied.back (x0, ()))
theorem copied.mkR (H : ∀ (x0 : (List (El THost))), copied.pre (x0, ()) = true → VE.ReturnsO Try.prog 32 (ivAO 0 copied.ps (x0, ())) (bxAO 0 copied.ps (x0, ())) (copied.res (x0, ())) (copied.back (x0, ()))) : SpecOKO Try.prog 32 copied.sp :=
  specO_ret Try.func32 (by kernel_rfl) (by kernel_rfl) fun (x : (List (El THost)) × Unit) hx => H (x.1) hx
theorem copied.mk  (hs : SpecsOK Try.prog (copied.specs ))  (H : ∀ (x0 : (List (El THost))), copied.pre (x0, ()) = true → ∃ m, copied.go  m x0 = some (copied.res (x0, ()), copied.back (x0, ()))) : SpecOKO Try.prog 32 copied.sp :=
  copied.mkR fun x0 hx => (H x0 hx).elim fun _ hm => copied.ret  hs  x0 hm

/-! ### slices.Insert(()triage/api.Host,triage/api.Host) -/
noncomputable def insV.body : Code := bodyOf Try.f31
noncomputable def insV.rs : List ResultVar := Try.f31.results.toList
def insV.live : List (Nat × Live) := []
noncomputable def insV.specs  : List (Nat × (List Bool × ISpec)) := []
noncomputable def insV.ospecs  : List (Nat × OS) := []
noncomputable def insV.cfg  : Cfg := ⟨lkp tab, lkp (insV.specs ), lkp insV.live, ⟨lkp (insV.ospecs ), [], some ([.arr 34 THost], []), true, [46]⟩⟩
noncomputable def insV.go  (m : Nat) (x0 : (List (El THost))) (x1 : Int) (x2 : (El THost)) (x3 : Nat) : R := run (insV.cfg ) 95 insV.rs m [.code insV.body] (enterO [.c (.view (oid 0) 6 0 x0.length (some x3)), .c (.v (.int .i64 x1)), .c (.sref (oid 2))] [(oid 0, .row 34 THost x0), (oid 2, .arr 34 THost [x2] false)])
theorem insV.start  (m : Nat) (x0 : (List (El THost))) (x1 : Int) (x2 : (El THost)) (x3 : Nat) : insV.go  (m + 1) x0 x1 x2 x3 =
  test (decide ((0 : Int) ≤ x1)) (
   test (decide (x1 ≤ ((List.length x0) : Int))) (
    cond (x1 == ((List.length x0) : Int)) (
     cond (decide (((0 + (List.length x0)) + (List.length (x2 :: ([] : List (El THost))))) ≤ x3)) (
      test (decide ((0 + (List.length x0)) ≤ (List.length x0))) (
       test (decide (((List.length x0) + (List.length (x2 :: ([] : List (El THost))))) ≤ (List.length (over x0 (0 + (List.length x0)) (x2 :: ([] : List (El THost))))))) (
        some ((.c (.sref 115326)), [(115326, (.arr 34 THost (List.take ((List.length x0) + (List.length (x2 :: ([] : List (El THost))))) (over x0 (0 + (List.length x0)) (x2 :: ([] : List (El THost))))) false))])))) (
      test (decide ((0 + (List.length x0)) ≤ (List.length x0))) (
       test (decide (((List.length x0) + (List.length (x2 :: ([] : List (El THost))))) ≤ (lim 80))) (
        some ((.c (.sref 115326)), [(115326, (.arr 34 THost ((List.take (List.length x0) (List.drop 0 x0)) ++ (x2 :: ([] : List (El THost)))) false))]))))) (
     cond (decide ((IntKind.i64.wrap (((List.length x0) : Int) + ((List.length (x2 :: ([] : List (El THost)))) : Int))) > ((x3 - 0) : Int))) (
      test (decide ((0 : Int) ≤ x1)) (
       test (decide (x1 ≤ ((x3 - 0) : Int))) (
        test (decide ((0 : Int) < (IntKind.i64.wrap ((IntKind.i64.wrap (((List.length x0) : Int) + ((List.length (x2 :: ([] : List (El THost)))) : Int))) - x1)))) (
         test (decide ((x3 : Int) < ((((0 + 0) + ((Int.toNat x1) - 0)) : Int) + (IntKind.i64.wrap ((IntKind.i64.wrap (((List.length x0) : Int) + ((List.length (x2 :: ([] : List (El THost)))) : Int))) - x1))))) (
          test (decide (((0 + 0) + ((Int.toNat x1) - 0)) ≤ (List.length x0))) (
           test (decide ((((Int.toNat x1) - 0) + (Int.toNat (IntKind.i64.wrap ((IntKind.i64.wrap (((List.length x0) : Int) + ((List.length (x2 :: ([] : List (El THost)))) : Int))) - x1)))) ≤ (lim 80))) (
            test (decide ((0 : Int) ≤ x1)) (
             test (decide (x1 ≤ ((List.length ((List.take ((Int.toNat x1) - 0) (List.drop (0 + 0) x0)) ++ (List.replicate (Int.toNat (IntKind.i64.wrap ((IntKind.i64.wrap (((List.length x0) : Int) + ((List.length (x2 :: ([] : List (El THost)))) : Int))) - x1))) ((0 : Int), ((⟨#[]⟩ : ByteArray), ((0 : Int), ((⟨#[]⟩ : ByteArray), ((0 : Int), ([] : List (El TPair)))))))))) : Int))) (
              test (decide (((0 + (Int.toNat x1)) + (List.length (List.take ((List.length ((List.take ((Int.toNat x1) - 0) (List.drop (0 + 0) x0)) ++ (List.replicate (Int.toNat (IntKind.i64.wrap ((IntKind.i64.wrap (((List.length x0) : Int) + ((List.length (x2 :: ([] : List (El THost)))) : Int))) - x1))) ((0 : Int), ((⟨#[]⟩ : ByteArray), ((0 : Int), ((⟨#[]⟩ : ByteArray), ((0 : Int), ([] : List (El TPair)))))))))) - (Int.toNat x1)) (x2 :: ([] : List (El THost)))))) ≤ (List.length ((List.take ((Int.toNat x1) - 0) (List.drop (0 + 0) x0)) ++ (List.replicate (Int.toNat (IntKind.i64.wrap ((IntKind.i64.wrap (((List.length x0) : Int) + ((List.length (x2 :: ([] : List (El THost)))) : Int))) - x1))) ((0 : Int), ((⟨#[]⟩ : ByteArray), ((0 : Int), ((⟨#[]⟩ : ByteArray), ((0 : Int), ([] : List (El TPair)))))))))))) (
               test (decide ((0 : Int) ≤ (IntKind.i64.wrap (x1 + ((List.length (x2 :: ([] : List (El THost)))) : Int))))) (
                test (decide ((IntKind.i64.wrap (x1 + ((List.length (x2 :: ([] : List (El THost)))) : Int))) ≤ ((List.length (over ((List.take ((Int.toNat x1) - 0) (List.drop (0 + 0) x0)) ++ (List.replicate (Int.toNat (IntKind.i64.wrap ((IntKind.i64.wrap (((List.length x0) : Int) + ((List.length (x2 :: ([] : List (El THost)))) : Int))) - x1))) ((0 : Int), ((⟨#[]⟩ : ByteArray), ((0 : Int), ((⟨#[]⟩ : ByteArray), ((0 : Int), ([] : List (El TPair))))))))) (0 + (Int.toNat x1)) (List.take ((List.length ((List.take ((Int.toNat x1) - 0) (List.drop (0 + 0) x0)) ++ (List.replicate (Int.toNat (IntKind.i64.wrap ((IntKind.i64.wrap (((List.length x0) : Int) + ((List.length (x2 :: ([] : List (El THost)))) : Int))) - x1))) ((0 : Int), ((⟨#[]⟩ : ByteArray), ((0 : Int), ((⟨#[]⟩ : ByteArray), ((0 : Int), ([] : List (El TPair)))))))))) - (Int.toNat x1)) (x2 :: ([] : List (El THost)))))) : Int))) (
                 test (decide ((0 : Int) ≤ x1)) (
                  test (decide (x1 ≤ ((List.length x0) : Int))) (
                   test (decide (((0 + (Int.toNat x1)) + (Nat.min ((List.length x0) - (Int.toNat x1)) ((List.length (over ((List.take ((Int.toNat x1) - 0) (List.drop (0 + 0) x0)) ++ (List.replicate (Int.toNat (IntKind.i64.wrap ((IntKind.i64.wrap (((List.length x0) : Int) + ((List.length (x2 :: ([] : List (El THost)))) : Int))) - x1))) ((0 : Int), ((⟨#[]⟩ : ByteArray), ((0 : Int), ((⟨#[]⟩ : ByteArray), ((0 : Int), ([] : List (El TPair))))))))) (0 + (Int.toNat x1)) (List.take ((List.length ((List.take ((Int.toNat x1) - 0) (List.drop (0 + 0) x0)) ++ (List.replicate (Int.toNat (IntKind.i64.wrap ((IntKind.i64.wrap (((List.length x0) : Int) + ((List.length (x2 :: ([] : List (El THost)))) : Int))) - x1))) ((0 : Int), ((⟨#[]⟩ : ByteArray), ((0 : Int), ((⟨#[]⟩ : ByteArray), ((0 : Int), ([] : List (El TPair)))))))))) - (Int.toNat x1)) (x2 :: ([] : List (El THost)))))) - (Int.toNat (IntKind.i64.wrap (x1 + ((List.length (x2 :: ([] : List (El THost)))) : Int))))))) ≤ (List.length x0))) (
                    test (decide (((0 + (Int.toNat (IntKind.i64.wrap (x1 + ((List.length (x2 :: ([] : List (El THost)))) : Int))))) + (List.length (List.take ((List.length (over ((List.take ((Int.toNat x1) - 0) (List.drop (0 + 0) x0)) ++ (List.replicate (Int.toNat (IntKind.i64.wrap ((IntKind.i64.wrap (((List.length x0) : Int) + ((List.length (x2 :: ([] : List (El THost)))) : Int))) - x1))) ((0 : Int), ((⟨#[]⟩ : ByteArray), ((0 : Int), ((⟨#[]⟩ : ByteArray), ((0 : Int), ([] : List (El TPair))))))))) (0 + (Int.toNat x1)) (List.take ((List.length ((List.take ((Int.toNat x1) - 0) (List.drop (0 + 0) x0)) ++ (List.replicate (Int.toNat (IntKind.i64.wrap ((IntKind.i64.wrap (((List.length x0) : Int) + ((List.length (x2 :: ([] : List (El THost)))) : Int))) - x1))) ((0 : Int), ((⟨#[]⟩ : ByteArray), ((0 : Int), ((⟨#[]⟩ : ByteArray), ((0 : Int), ([] : List (El TPair)))))))))) - (Int.toNat x1)) (x2 :: ([] : List (El THost)))))) - (Int.toNat (IntKind.i64.wrap (x1 + ((List.length (x2 :: ([] : List (El THost)))) : Int))))) (List.take (Nat.min ((List.length x0) - (Int.toNat x1)) ((List.length (over ((List.take ((Int.toNat x1) - 0) (List.drop (0 + 0) x0)) ++ (List.replicate (Int.toNat (IntKind.i64.wrap ((IntKind.i64.wrap (((List.length x0) : Int) + ((List.length (x2 :: ([] : List (El THost)))) : Int))) - x1))) ((0 : Int), ((⟨#[]⟩ : ByteArray), ((0 : Int), ((⟨#[]⟩ : ByteArray), ((0 : Int), ([] : List (El TPair))))))))) (0 + (Int.toNat x1)) (List.take ((List.length ((List.take ((Int.toNat x1) - 0) (List.drop (0 + 0) x0)) ++ (List.replicate (Int.toNat (IntKind.i64.wrap ((IntKind.i64.wrap (((List.length x0) : Int) + ((List.length (x2 :: ([] : List (El THost)))) : Int))) - x1))) ((0 : Int), ((⟨#[]⟩ : ByteArray), ((0 : Int), ((⟨#[]⟩ : ByteArray), ((0 : Int), ([] : List (El TPair)))))))))) - (Int.toNat x1)) (x2 :: ([] : List (El THost)))))) - (Int.toNat (IntKind.i64.wrap (x1 + ((List.length (x2 :: ([] : List (El THost)))) : Int)))))) (List.drop (0 + (Int.toNat x1)) x0))))) ≤ (List.length (over ((List.take ((Int.toNat x1) - 0) (List.drop (0 + 0) x0)) ++ (List.replicate (Int.toNat (IntKind.i64.wrap ((IntKind.i64.wrap (((List.length x0) : Int) + ((List.length (x2 :: ([] : List (El THost)))) : Int))) - x1))) ((0 : Int), ((⟨#[]⟩ : ByteArray), ((0 : Int), ((⟨#[]⟩ : ByteArray), ((0 : Int), ([] : List (El TPair))))))))) (0 + (Int.toNat x1)) (List.take ((List.length ((List.take ((Int.toNat x1) - 0) (List.drop (0 + 0) x0)) ++ (List.replicate (Int.toNat (IntKind.i64.wrap ((IntKind.i64.wrap (((List.length x0) : Int) + ((List.length (x2 :: ([] : List (El THost)))) : Int))) - x1))) ((0 : Int), ((⟨#[]⟩ : ByteArray), ((0 : Int), ((⟨#[]⟩ : ByteArray), ((0 : Int), ([] : List (El TPair)))))))))) - (Int.toNat x1)) (x2 :: ([] : List (El THost)))))))) (
                     some ((.c (.sref 115326)), [(115326, (.arr 34 THost (over (over ((List.take ((Int.toNat x1) - 0) (List.drop (0 + 0) x0)) ++ (List.replicate (Int.toNat (IntKind.i64.wrap ((IntKind.i64.wrap (((List.length x0) : Int) + ((List.length (x2 :: ([] : List (El THost)))) : Int))) - x1))) ((0 : Int), ((⟨#[]⟩ : ByteArray), ((0 : Int), ((⟨#[]⟩ : ByteArray), ((0 : Int), ([] : List (El TPair))))))))) (0 + (Int.toNat x1)) (List.take ((List.length ((List.take ((Int.toNat x1) - 0) (List.drop (0 + 0) x0)) ++ (List.replicate (Int.toNat (IntKind.i64.wrap ((IntKind.i64.wrap (((List.length x0) : Int) + ((List.length (x2 :: ([] : List (El THost)))) : Int))) - x1))) ((0 : Int), ((⟨#[]⟩ : ByteArray), ((0 : Int), ((⟨#[]⟩ : ByteArray), ((0 : Int), ([] : List (El TPair)))))))))) - (Int.toNat x1)) (x2 :: ([] : List (El THost))))) (0 + (Int.toNat (IntKind.i64.wrap (x1 + ((List.length (x2 :: ([] : List (El THost)))) : Int))))) (List.take ((List.length (over ((List.take ((Int.toNat x1) - 0) (List.drop (0 + 0) x0)) ++ (List.replicate (Int.toNat (IntKind.i64.wrap ((IntKind.i64.wrap (((List.length x0) : Int) + ((List.length (x2 :: ([] : List (El THost)))) : Int))) - x1))) ((0 : Int), ((⟨#[]⟩ : ByteArray), ((0 : Int), ((⟨#[]⟩ : ByteArray), ((0 : Int), ([] : List (El TPair))))))))) (0 + (Int.toNat x1)) (List.take ((List.length ((List.take ((Int.toNat x1) - 0) (List.drop (0 + 0) x0)) ++ (List.replicate (Int.toNat (IntKind.i64.wrap ((IntKind.i64.wrap (((List.length x0) : Int) + ((List.length (x2 :: ([] : List (El THost)))) : Int))) - x1))) ((0 : Int), ((⟨#[]⟩ : ByteArray), ((0 : Int), ((⟨#[]⟩ : ByteArray), ((0 : Int), ([] : List (El TPair)))))))))) - (Int.toNat x1)) (x2 :: ([] : List (El THost)))))) - (Int.toNat (IntKind.i64.wrap (x1 + ((List.length (x2 :: ([] : List (El THost)))) : Int))))) (List.take (Nat.min ((List.length x0) - (Int.toNat x1)) ((List.length (over ((List.take ((Int.toNat x1) - 0) (List.drop (0 + 0) x0)) ++ (List.replicate (Int.toNat (IntKind.i64.wrap ((IntKind.i64.wrap (((List.length x0) : Int) + ((List.length (x2 :: ([] : List (El THost)))) : Int))) - x1))) ((0 : Int), ((⟨#[]⟩ : ByteArray), ((0 : Int), ((⟨#[]⟩ : ByteArray), ((0 : Int), ([] : List (El TPair))))))))) (0 + (Int.toNat x1)) (List.take ((List.length ((List.take ((Int.toNat x1) - 0) (List.drop (0 + 0) x0)) ++ (List.replicate (Int.toNat (IntKind.i64.wrap ((IntKind.i64.wrap (((List.length x0) : Int) + ((List.length (x2 :: ([] : List (El THost)))) : Int))) - x1))) ((0 : Int), ((⟨#[]⟩ : ByteArray), ((0 : Int), ((⟨#[]⟩ : ByteArray), ((0 : Int), ([] : List (El TPair)))))))))) - (Int.toNat x1)) (x2 :: ([] : List (El THost)))))) - (Int.toNat (IntKind.i64.wrap (x1 + ((List.length (x2 :: ([] : List (El THost)))) : Int)))))) (List.drop (0 + (Int.toNat x1)) x0)))) false))]))))))))))))))))) (
      test (decide ((0 : Int) ≤ (IntKind.i64.wrap (((List.length x0) : Int) + ((List.length (x2 :: ([] : List (El THost)))) : Int))))) (
       test (decide ((IntKind.i64.wrap (((List.length x0) : Int) + ((List.length (x2 :: ([] : List (El THost)))) : Int))) ≤ ((x3 - 0) : Int))) (
        test (decide ((0 : Int) ≤ (IntKind.i64.wrap (x1 + ((List.length (x2 :: ([] : List (El THost)))) : Int))))) (
         test (decide ((IntKind.i64.wrap (x1 + ((List.length (x2 :: ([] : List (El THost)))) : Int))) ≤ (((Int.toNat (IntKind.i64.wrap (((List.length x0) : Int) + ((List.length (x2 :: ([] : List (El THost)))) : Int)))) - 0) : Int))) (
          test (decide ((0 : Int) ≤ (IntKind.i64.wrap (x1 + ((List.length (x2 :: ([] : List (El THost)))) : Int))))) (
           test (decide ((IntKind.i64.wrap (x1 + ((List.length (x2 :: ([] : List (El THost)))) : Int))) ≤ (((Int.toNat (IntKind.i64.wrap (((List.length x0) : Int) + ((List.length (x2 :: ([] : List (El THost)))) : Int)))) - 0) : Int))) (
            test (decide ((0 : Int) ≤ x1)) (
             test (decide (x1 ≤ (((Int.toNat (IntKind.i64.wrap (((List.length x0) : Int) + ((List.length (x2 :: ([] : List (El THost)))) : Int)))) - 0) : Int))) (
              test (decide ((((0 + 0) + (Int.toNat x1)) + (Nat.min (((Int.toNat (IntKind.i64.wrap (((List.length x0) : Int) + ((List.length (x2 :: ([] : List (El THost)))) : Int)))) - 0) - (Int.toNat x1)) (((Int.toNat (IntKind.i64.wrap (((List.length x0) : Int) + ((List.length (x2 :: ([] : List (El THost)))) : Int)))) - 0) - (Int.toNat (IntKind.i64.wrap (x1 + ((List.length (x2 :: ([] : List (El THost)))) : Int))))))) ≤ (List.length x0))) (
               test (decide (((0 + 0) + (Int.toNat (IntKind.i64.wrap (x1 + ((List.length (x2 :: ([] : List (El THost)))) : Int))))) ≤ (List.length x0))) (
                test (decide ((0 : Int) ≤ x1)) (
                 test (decide (x1 ≤ (((Int.toNat (IntKind.i64.wrap (((List.length x0) : Int) + ((List.length (x2 :: ([] : List (El THost)))) : Int)))) - 0) : Int))) (
                  test (decide (((0 + 0) + (Int.toNat x1)) ≤ (List.length (over x0 ((0 + 0) + (Int.toNat (IntKind.i64.wrap (x1 + ((List.length (x2 :: ([] : List (El THost)))) : Int))))) (List.take (((Int.toNat (IntKind.i64.wrap (((List.length x0) : Int) + ((List.length (x2 :: ([] : List (El THost)))) : Int)))) - 0) - (Int.toNat (IntKind.i64.wrap (x1 + ((List.length (x2 :: ([] : List (El THost)))) : Int))))) (List.take (Nat.min (((Int.toNat (IntKind.i64.wrap (((List.length x0) : Int) + ((List.length (x2 :: ([] : List (El THost)))) : Int)))) - 0) - (Int.toNat x1)) (((Int.toNat (IntKind.i64.wrap (((List.length x0) : Int) + ((List.length (x2 :: ([] : List (El THost)))) : Int)))) - 0) - (Int.toNat (IntKind.i64.wrap (x1 + ((List.length (x2 :: ([] : List (El THost)))) : Int)))))) (List.drop ((0 + 0) + (Int.toNat x1)) x0))))))) (
                   test (decide (((Int.toNat (IntKind.i64.wrap (((List.length x0) : Int) + ((List.length (x2 :: ([] : List (El THost)))) : Int)))) - 0) ≤ (List.length (over (over x0 ((0 + 0) + (Int.toNat (IntKind.i64.wrap (x1 + ((List.length (x2 :: ([] : List (El THost)))) : Int))))) (List.take (((Int.toNat (IntKind.i64.wrap (((List.length x0) : Int) + ((List.length (x2 :: ([] : List (El THost)))) : Int)))) - 0) - (Int.toNat (IntKind.i64.wrap (x1 + ((List.length (x2 :: ([] : List (El THost)))) : Int))))) (List.take (Nat.min (((Int.toNat (IntKind.i64.wrap (((List.length x0) : Int) + ((List.length (x2 :: ([] : List (El THost)))) : Int)))) - 0) - (Int.toNat x1)) (((Int.toNat (IntKind.i64.wrap (((List.length x0) : Int) + ((List.length (x2 :: ([] : List (El THost)))) : Int)))) - 0) - (Int.toNat (IntKind.i64.wrap (x1 + ((List.length (x2 :: ([] : List (El THost)))) : Int)))))) (List.drop ((0 + 0) + (Int.toNat x1)) x0)))) ((0 + 0) + (Int.toNat x1)) (List.take (((Int.toNat (IntKind.i64.wrap (((List.length x0) : Int) + ((List.length (x2 :: ([] : List (El THost)))) : Int)))) - 0) - (Int.toNat x1)) (x2 :: ([] : List (El THost)))))))) (
                    some ((.c (.sref 115326)), [(115326, (.arr 34 THost (List.take ((Int.toNat (IntKind.i64.wrap (((List.length x0) : Int) + ((List.length (x2 :: ([] : List (El THost)))) : Int)))) - 0) (over (over x0 ((0 + 0) + (Int.toNat (IntKind.i64.wrap (x1 + ((List.length (x2 :: ([] : List (El THost)))) : Int))))) (List.take (((Int.toNat (IntKind.i64.wrap (((List.length x0) : Int) + ((List.length (x2 :: ([] : List (El THost)))) : Int)))) - 0) - (Int.toNat (IntKind.i64.wrap (x1 + ((List.length (x2 :: ([] : List (El THost)))) : Int))))) (List.take (Nat.min (((Int.toNat (IntKind.i64.wrap (((List.length x0) : Int) + ((List.length (x2 :: ([] : List (El THost)))) : Int)))) - 0) - (Int.toNat x1)) (((Int.toNat (IntKind.i64.wrap (((List.length x0) : Int) + ((List.length (x2 :: ([] : List (El THost)))) : Int)))) - 0) - (Int.toNat (IntKind.i64.wrap (x1 + ((List.length (x2 :: ([] : List (El THost)))) : Int)))))) (List.drop ((0 + 0) + (Int.toNat x1)) x0)))) ((0 + 0) + (Int.toNat x1)) (List.take (((Int.toNat (IntKind.i64.wrap (((List.length x0) : Int) + ((List.length (x2 :: ([] : List (El THost)))) : Int)))) - 0) - (Int.toNat x1)) (x2 :: ([] : List (El THost)))))) false))]))))))))))))))))))) := by kernel_rfl
theorem insV.run_eq  (m : Nat) (x0 : (List (El THost))) (x1 : Int) (x2 : (El THost)) (x3 : Nat) : run (insV.cfg ) Try.f31.ntmps Try.f31.results.toList m [.code (bodyOf Try.f31)] (enterO [.c (.view (oid 0) 6 0 x0.length (some x3)), .c (.v (.int .i64 x1)), .c (.sref (oid 2))] [(oid 0, .row 34 THost x0), (oid 2, .arr 34 THost [x2] false)]) = insV.go  m x0 x1 x2 x3 := by kernel_rfl
theorem insV.ret  (hs : SpecsOK Try.prog (insV.specs ))  (x0 : (List (El THost))) (x1 : Int) (x2 : (El THost)) (x3 : Nat) {m : Nat} {r : IV} {b : List (Nat × Box)} (h : insV.go  m x0 x1 x2 x3 = some (r, b)) : VE.ReturnsO Try.prog 31 [.c (.view (oid 0) 6 0 x0.length (some x3)), .c (.v (.int .i64 x1)), .c (.sref (oid 2))] [(oid 0, .row 34 THost x0), (oid 2, .arr 34 THost [x2] false)] r b :=
  returnsO_of_run (cfg := insV.cfg ) (cfgOK_of mixed tab_ok hs .nil ovl_ok) rfl Try.func31 (body_some (by kernel_rfl)) (Nat.le_of_ble_eq_true (by kernel_rfl)) (fun _ _ _ h => by simp at h) ((insV.run_eq  m x0 x1 x2 x3).trans h)

/-! ### slices.Insert(()triage/api.Host,triage/api.Host) -/
abbrev ins.ps : List AK := [.m 34 THost, .d false (.int .i64), .m 34 THost]
def ins.pre : ElA ins.ps → Bool := fun (x : (List (El THost)) × Int × (List (El THost)) × Unit) => fits (.sl THost) (x.1) && (fits (.int .i64) (x.2.1) && (fits (.sl THost) (x.2.2.1) && ((fun l i v => decide (0 ≤ i ∧ i ≤ (List.length l : Int) ∧ List.length l ≤ 1000000 ∧ List.length v = 1)) x.1 x.2.1 x.2.2.1 && (true))))
def ins.rv : ElA ins.ps → List RV := fun (x : (List (El THost)) × Int × (List (El THost)) × Unit) => [.m 34 THost ((fun l i v => putIn l i.toNat (rdEl THost v 0)) x.1 x.2.1 x.2.2.1)]
def ins.res : ElA ins.ps → IV := fun x => oneOrTup (rvIVs 0 (ins.rv x))
def ins.back : ElA ins.ps → List (Nat × Box) := fun (x : (List (El THost)) × Int × (List (El THost)) × Unit) => rvBxs 0 (ins.rv x)
def ins.sp : OSpec := spO ins.ps ins.pre ins.res ins.back
abbrev ins.OK : Prop := SpecOKO Try.prog 31 ins.sp
theorem ins.mkR (H : ∀ (x0 : (List (El THost))) (x1 : Int) (x2 : (List (El THost))), ins.pre (x0, x1, x2, ()) = true → VE.ReturnsO Try.prog 31 (ivAO 0 ins.ps (x0, x1, x2, ())) (bxAO 0 ins.ps (x0, x1, x2, ())) (ins.res (x0, x1, x2, ())) (ins.back (x0, x1, x2, ()))) : SpecOKO Try.prog 31 ins.sp :=
  specO_ret Try.func31 (by kernel_rfl) (by kernel_rfl) fun (x : (List (El THost)) × Int × (List (El THost)) × Unit) hx => H (x.1) (x.2.1) (x.2.2.1) hx

/-! ### slices.Delete(()triage/api.Host,triage/api.Host) -/
abbrev del.ps : List AK := [.m 34 THost, .d false (.int .i64), .d false (.int .i64)]
def del.pre : ElA del.ps → Bool := fun (x : (List (El THost)) × Int × Int × Unit) => fits (.sl THost) (x.1) && (fits (.int .i64) (x.2.1) && (fits (.int .i64) (x.2.2.1) && ((fun l i j => decide (0 ≤ i ∧ i ≤ j ∧ j ≤ (List.length l : Int))) x.1 x.2.1 x.2.2.1 && (true))))
def del.rv : ElA del.ps → List RV := fun (x : (List (El THost)) × Int × Int × Unit) => [.m 34 THost ((fun l i j => cutOut l i.toNat j.toNat) x.1 x.2.1 x.2.2.1)]
def del.res : ElA del.ps → IV := fun x => oneOrTup (rvIVs 0 (del.rv x))
def del.back : ElA del.ps → List (Nat × Box) := fun (x : (List (El THost)) × Int × Int × Unit) => rvBxs 0 (del.rv x)
def del.sp : OSpec := spO del.ps del.pre del.res del.back
abbrev del.OK : Prop := SpecOKO Try.prog 38 del.sp
noncomputable def del.body : Code := bodyOf Try.f38
noncomputable def del.rs : List ResultVar := Try.f38.results.toList
def del.live : List (Nat × Live) := []
noncomputable def del.specs  : List (Nat × (List Bool × ISpec)) := []
noncomputable def del.ospecs  : List (Nat × OS) := []
noncomputable def del.cfg  : Cfg := ⟨lkp tab, lkp (del.specs ), lkp del.live, ⟨lkp (del.ospecs ), oids 0 del.ps, some ([.arr 34 THost], []), true, []⟩⟩
noncomputable def del.go  (m : Nat) (x0 : (List (El THost))) (x1 : Int) (x2 : Int) : R := run (del.cfg ) 33 del.rs m [.code del.body] (enterO (ivAO 0 del.ps (x0, x1, x2, ())) (bxAO 0 del.ps (x0, x1, x2, ())))
theorem del.start  (m : Nat) (x0 : (List (El THost))) (x1 : Int) (x2 : Int) : del.go  (m + 1) x0 x1 x2 =
  test (decide (((List.length x0) : Int) ≤ ((List.length x0) : Int))) (
   test (decide ((0 : Int) ≤ x2)) (
    test (decide (x2 ≤ ((List.length x0) : Int))) (
     test (decide ((0 : Int) ≤ x1)) (
      test (decide (x1 ≤ x2)) (
       cond (x1 == x2) (
        some ((.c (.sref 115326)), [(115326, (.arr 34 THost x0 false))])) (
        test (decide ((0 : Int) ≤ x1)) (
         test (decide (x1 ≤ ((List.length x0) : Int))) (
          test (decide ((0 : Int) ≤ x2)) (
           test (decide (x2 ≤ ((List.length x0) : Int))) (
            test (decide (((0 + (Int.toNat x2)) + ((List.length x0) - (Int.toNat x2))) ≤ (List.length x0))) (
             test (decide ((((0 + 0) + ((Int.toNat x1) - 0)) + (List.length (List.take ((List.length x0) - (Int.toNat x2)) (List.drop (0 + (Int.toNat x2)) x0)))) ≤ (List.length x0))) (
              test (decide ((((0 + 0) + ((Int.toNat x1) - 0)) + (List.length (List.take ((List.length x0) - (Int.toNat x2)) (List.drop (0 + (Int.toNat x2)) x0)))) ≤ (List.length x0))) (
               test (decide (((List.length x0) : Int) ≤ (((List.length (over x0 ((0 + 0) + ((Int.toNat x1) - 0)) (List.take ((List.length x0) - (Int.toNat x2)) (List.drop (0 + (Int.toNat x2)) x0)))) - (0 + 0)) : Int))) (
                test (decide (((((Int.toNat x1) - 0) + (List.length (List.take ((List.length x0) - (Int.toNat x2)) (List.drop (0 + (Int.toNat x2)) x0)))) : Int) ≤ ((Int.toNat ((List.length x0) : Int)) : Int))) (
                 test (decide ((((0 + 0) + (Int.toNat ((((Int.toNat x1) - 0) + (List.length (List.take ((List.length x0) - (Int.toNat x2)) (List.drop (0 + (Int.toNat x2)) x0)))) : Int))) + (List.length (List.replicate ((Int.toNat ((List.length x0) : Int)) - (Int.toNat ((((Int.toNat x1) - 0) + (List.length (List.take ((List.length x0) - (Int.toNat x2)) (List.drop (0 + (Int.toNat x2)) x0)))) : Int))) ((0 : Int), ((⟨#[]⟩ : ByteArray), ((0 : Int), ((⟨#[]⟩ : ByteArray), ((0 : Int), ([] : List (El TPair)))))))))) ≤ (List.length (over x0 ((0 + 0) + ((Int.toNat x1) - 0)) (List.take ((List.length x0) - (Int.toNat x2)) (List.drop (0 + (Int.toNat x2)) x0)))))) (
                  test (decide ((((Int.toNat x1) - 0) + (List.length (List.take ((List.length x0) - (Int.toNat x2)) (List.drop (0 + (Int.toNat x2)) x0)))) ≤ (List.length (over (over x0 ((0 + 0) + ((Int.toNat x1) - 0)) (List.take ((List.length x0) - (Int.toNat x2)) (List.drop (0 + (Int.toNat x2)) x0))) ((0 + 0) + (Int.toNat ((((Int.toNat x1) - 0) + (List.length (List.take ((List.length x0) - (Int.toNat x2)) (List.drop (0 + (Int.toNat x2)) x0)))) : Int))) (List.replicate ((Int.toNat ((List.length x0) : Int)) - (Int.toNat ((((Int.toNat x1) - 0) + (List.length (List.take ((List.length x0) - (Int.toNat x2)) (List.drop (0 + (Int.toNat x2)) x0)))) : Int))) ((0 : Int), ((⟨#[]⟩ : ByteArray), ((0 : Int), ((⟨#[]⟩ : ByteArray), ((0 : Int), ([] : List (El TPair)))))))))))) (
                   some ((.c (.sref 115326)), [(115326, (.arr 34 THost (List.take (((Int.toNat x1) - 0) + (List.length (List.take ((List.length x0) - (Int.toNat x2)) (List.drop (0 + (Int.toNat x2)) x0)))) (over (over x0 ((0 + 0) + ((Int.toNat x1) - 0)) (List.take ((List.length x0) - (Int.toNat x2)) (List.drop (0 + (Int.toNat x2)) x0))) ((0 + 0) + (Int.toNat ((((Int.toNat x1) - 0) + (List.length (List.take ((List.length x0) - (Int.toNat x2)) (List.drop (0 + (Int.toNat x2)) x0)))) : Int))) (List.replicate ((Int.toNat ((List.length x0) : Int)) - (Int.toNat ((((Int.toNat x1) - 0) + (List.length (List.take ((List.length x0) - (Int.toNat x2)) (List.drop (0 + (Int.toNat x2)) x0)))) : Int))) ((0 : Int), ((⟨#[]⟩ : ByteArray), ((0 : Int), ((⟨#[]⟩ : ByteArray), ((0 : Int), ([] : List (El TPair)))))))))) false))])))))))))))))))))) := by kernel_rfl
theorem del.run_eq  (m : Nat) (x0 : (List (El THost))) (x1 : Int) (x2 : Int) : run (del.cfg ) Try.f38.ntmps Try.f38.results.toList m [.code (bodyOf Try.f38)] (enterO (ivAO 0 del.ps (x0, x1, x2, ())) (bxAO 0 del.ps (x0, x1, x2, ()))) = del.go  m x0 x1 x2 := by kernel_rfl
theorem del.ret  (hs : SpecsOK Try.prog (del.specs ))  (x0 : (List (El THost))) (x1 : Int) (x2 : Int) {m : Nat} {r : IV} {b : List (Nat × Box)} (h : del.go  m x0 x1 x2 = some (r, b)) : VE.ReturnsO Try.prog 38 (ivAO 0 del.ps (x0, x1, x2, ())) (bxAO 0 del.ps (x0, x1, x2, ())) r b :=
  returnsO_of_run (cfg := del.cfg ) (cfgOK_of mixed tab_ok hs .nil) rfl Try.func38 (body_some (by kernel_rfl)) (Nat.le_of_ble_eq_true (by kernel_rfl)) (fun _ _ _ h => oids_mem h) ((del.run_eq  m x0 x1 x2).trans h)
abbrev del.Law : Prop := ∀ (x0 : (List (El THost))) (x1 : Int) (x2 : Int), del.pre (x0, x1, x2, ()) = true → VE.ReturnsO Try.prog 38 (ivAO 0 del.ps (x0, x1, x2, ())) (bxAO 0 del.ps (x0, x1, x2, ())) (del.res (x0, x1, x2, ())) (del.back (x0, x1, x2, ()))
theorem del.mkR (H : ∀ (x0 : (List (El THost))) (x1 : Int) (x2 : Int), del.pre (x0, x1, x2, ()) = true → VE.ReturnsO Try.prog 38 (ivAO 0 del.ps (x0, x1, x2, ())) (bxAO 0 del.ps (x0, x1, x2, ())) (del.res (x0, x1, x2, ())) (del.back (x0, x1, x2, ()))) : SpecOKO Try.prog 38 del.sp :=
  specO_ret Try.func38 (by kernel_rfl) (by kernel_rfl) fun (x : (List (El THost)) × Int × Int × Unit) hx => H (x.1) (x.2.1) (x.2.2.1) hx
theorem del.mk  (hs : SpecsOK Try.prog (del.specs ))  (H : ∀ (x0 : (List (El THost))) (x1 : Int) (x2 : Int), del.pre (x0, x1, x2, ()) = true → ∃ m, del.go  m x0 x1 x2 = some (del.res (x0, x1, x2, ()), del.back (x0, x1, x2, ()))) : SpecOKO Try.prog 38 del.sp :=
  del.mkR fun x0 x1 x2 hx => (H x0 x1 x2 hx).elim fun _ hm => del.ret  hs  x0 x1 x2 hm

/-! ### triage/table.Add -/
abbrev add.ps : List AK := [.d false (.sl THost), .d true THost]
def add.pre : ElA add.ps → Bool := fun (x : (List (El THost)) × (El THost) × Unit) => fits (.sl THost) (x.1) && (fits THost (x.2.1) && (true))
def add.rv : ElA add.ps → List RV := fun (x : (List (El THost)) × (El THost) × Unit) => [.d ((fun l h => .c (.sl THost (addL l h))) x.1 x.2.1), .d ((fun l h => vi .i64 (addE l h)) x.1 x.2.1)]
def add.res : ElA add.ps → IV := fun x => oneOrTup (rvIVs 0 (add.rv x))
def add.back : ElA add.ps → List (Nat × Box) := fun (x : (List (El THost)) × (El THost) × Unit) => rvBxs 0 (add.rv x)
def add.sp : OSpec := spO add.ps add.pre add.res add.back
abbrev add.OK : Prop := SpecOKO Try.prog 15 add.sp
noncomputable def add.body : Code := bodyOf Try.f15
noncomputable def add.rs : List ResultVar := Try.f15.results.toList
def add.live : List (Nat × Live) := []
noncomputable def add.specs  : List (Nat × (List Bool × ISpec)) := [(17, ([], mayT.sp)), (28, ([], may.sp)), (30, ([], keys.sp)), (29, ([], ofind.sp)), (33, ([], copy.sp))]
noncomputable def add.ospecs  : List (Nat × OS) := [(32, ⟨[], [], copied.sp⟩), (31, ⟨[some (.arr 34 THost), none, some (.arr 34 THost)], [], ins.sp⟩)]
noncomputable def add.cfg  : Cfg := ⟨lkp tab, lkp (add.specs ), lkp add.live, ⟨lkp (add.ospecs ), oids 0 add.ps, some ([.sl THost, .plain], []), false, []⟩⟩
noncomputable def add.go  (m : Nat) (x0 : (List (El THost))) (x1 : (El THost)) : R := run (add.cfg ) 38 add.rs m [.code add.body] (enterO (ivAO 0 add.ps (x0, x1, ())) (bxAO 0 add.ps (x0, x1, ())))
theorem add.start  (m : Nat) (x0 : (List (El THost))) (x1 : (El THost)) : add.go  (m + 1) x0 x1 =
  test (mayT.pre (x0, Unit.unit)) (
   cond (Bool.not (mayTB x0)) (
    some ((.tup [(.c (.sl THost ([] : List (El THost)))), (.c (.v (.int .i64 (1 : Int))))]), [])) (
    test (may.pre (x1, Unit.unit)) (
     cond (Bool.not (mayB x1)) (
      some ((.tup [(.c (.sl THost ([] : List (El THost)))), (.c (.v (.int .i64 (1 : Int))))]), [])) (
      test (keys.pre (x0, Unit.unit)) (
       test (ofind.pre ((keysL x0), ((x1.1, (0 : Int)), Unit.unit))) (
        cond (thereK (keysL x0) (x1.1, (0 : Int))) (
         some ((.tup [(.c (.sl THost ([] : List (El THost)))), (.c (.v (.int .i64 (3 : Int))))]), [])) (
         cond (((List.length x0) : Int) == (64 : Int)) (
          some ((.tup [(.c (.sl THost ([] : List (El THost)))), (.c (.v (.int .i64 (6 : Int))))]), [])) (
          test (copied.pre (x0, Unit.unit)) (
           test (copy.pre (x1, Unit.unit)) (
            test (ins.pre (x0, (((placeK (keysL x0) (x1.1, (0 : Int))) : Int), ((x1 :: ([] : List (El THost))), Unit.unit)))) (
             some ((.tup [(.c (.sl THost (putIn x0 (Int.toNat ((placeK (keysL x0) (x1.1, (0 : Int))) : Int)) (rdEl THost (x1 :: ([] : List (El THost))) 0)))), (.c (.v (.int .i64 (0 : Int))))]), [])))))))))))) := by kernel_rfl
theorem add.run_eq  (m : Nat) (x0 : (List (El THost))) (x1 : (El THost)) : run (add.cfg ) Try.f15.ntmps Try.f15.results.toList m [.code (bodyOf Try.f15)] (enterO (ivAO 0 add.ps (x0, x1, ())) (bxAO 0 add.ps (x0, x1, ()))) = add.go  m x0 x1 := by kernel_rfl
theorem add.ret  (hs : SpecsOK Try.prog (add.specs )) (ho : OSpecsOK Try.prog (add.ospecs )) (x0 : (List (El THost))) (x1 : (El THost)) {m : Nat} {r : IV} {b : List (Nat × Box)} (h : add.go  m x0 x1 = some (r, b)) : VE.ReturnsO Try.prog 15 (ivAO 0 add.ps (x0, x1, ())) (bxAO 0 add.ps (x0, x1, ())) r b :=
  returnsO_of_run (cfg := add.cfg ) (cfgOK_of mixed tab_ok hs ho) rfl Try.func15 (body_some (by kernel_rfl)) (Nat.le_of_ble_eq_true (by kernel_rfl)) (fun _ _ _ h => oids_mem h) ((add.run_eq  m x0 x1).trans h)
abbrev add.Law : Prop := ∀ (x0 : (List (El THost))) (x1 : (El THost)), add.pre (x0, x1, ()) = true → VE.ReturnsO Try.prog 15 (ivAO 0 add.ps (x0, x1, ())) (bxAO 0 add.ps (x0, x1, ())) (add.res (x0, x1, ())) (add.back (x0, x1, ()))
theorem add.mkR (H : ∀ (x0 : (List (El THost))) (x1 : (El THost)), add.pre (x0, x1, ()) = true → VE.ReturnsO Try.prog 15 (ivAO 0 add.ps (x0, x1, ())) (bxAO 0 add.ps (x0, x1, ())) (add.res (x0, x1, ())) (add.back (x0, x1, ()))) : SpecOKO Try.prog 15 add.sp :=
  specO_ret Try.func15 (by kernel_rfl) (by kernel_rfl) fun (x : (List (El THost)) × (El THost) × Unit) hx => H (x.1) (x.2.1) hx
theorem add.mk  (hs : SpecsOK Try.prog (add.specs )) (ho : OSpecsOK Try.prog (add.ospecs )) (H : ∀ (x0 : (List (El THost))) (x1 : (El THost)), add.pre (x0, x1, ()) = true → ∃ m, add.go  m x0 x1 = some (add.res (x0, x1, ()), add.back (x0, x1, ()))) : SpecOKO Try.prog 15 add.sp :=
  add.mkR fun x0 x1 hx => (H x0 x1 hx).elim fun _ hm => add.ret  hs ho x0 x1 hm

/-! ### triage/triageref1.AddHost -/
abbrev addR.ps : List AK := [.d false (.sl THost), .d true THost]
def addR.pre : ElA addR.ps → Bool := fun (x : (List (El THost)) × (El THost) × Unit) => fits (.sl THost) (x.1) && (fits THost (x.2.1) && (true))
def addR.rv : ElA addR.ps → List RV := fun (x : (List (El THost)) × (El THost) × Unit) => [.d ((fun l h => .c (.sl THost (addL l h))) x.1 x.2.1), .d ((fun l h => vi .i64 (addE l h)) x.1 x.2.1)]
def addR.res : ElA addR.ps → IV := fun x => oneOrTup (rvIVs 0 (addR.rv x))
def addR.back : ElA addR.ps → List (Nat × Box) := fun (x : (List (El THost)) × (El THost) × Unit) => rvBxs 0 (addR.rv x)
def addR.sp : OSpec := spO addR.ps addR.pre addR.res addR.back
abbrev addR.OK : Prop := SpecOKO Try.prog 19 addR.sp
noncomputable def addR.body : Code := bodyOf Try.f19
noncomputable def addR.rs : List ResultVar := Try.f19.results.toList
def addR.live : List (Nat × Live) := [(10, ⟨[(3, .plain), (6, .arr 34 THost), (7, .plain), (29, .sl THost), (30, .plain), (31, .plain)], [(1, [])]⟩)]
noncomputable def addR.specs  : List (Nat × (List Bool × ISpec)) := [(9, ([], mayTR.sp)), (13, ([], mayR.sp)), (14, ([], findR.sp)), (37, ([], copyR.sp))]
noncomputable def addR.ospecs  : List (Nat × OS) := []
noncomputable def addR.cfg  : Cfg := ⟨lkp tab, lkp (addR.specs ), lkp addR.live, ⟨lkp (addR.ospecs ), oids 0 addR.ps, some ([.sl THost, .plain], []), false, []⟩⟩
noncomputable def addR.l1  (m : Nat) (x0 : Bool) (x1 : List (El THost)) (x2 : Int) (x3 : Int) (x4 : List (El THost)) (x5 : Int) (x6 : ByteArray) (x7 : Int) (x8 : ByteArray) (x9 : Int) (x10 : List (El TPair)) : R := run (addR.cfg ) 63 addR.rs m ((todoR 10 addR.body []).getD []) ⟨ofList (.c .junk) [(3, (.c (.ref 1 0))), (6, (.c (.sref 894))), (7, (.c (.v (.bool x0)))), (29, (.c (.sl THost x1))), (30, (.c (.v (.int .i64 x2)))), (31, (.c (.v (.int .i64 x3))))], ofList none [(894, some (.arr 34 THost x4 false)), (1, some (.cells 34 [(.v (.int .i64 x5)), (.v (.string x6)), (.v (.int .i64 x7)), (.v (.string x8)), (.v (.int .i64 x9)), (.sl TPair x10)]))], ofList false [(894, true), (1, true)]⟩
noncomputable def addR.go  (m : Nat) (x0 : (List (El THost))) (x1 : (El THost)) : R := run (addR.cfg ) 63 addR.rs m [.code addR.body] (enterO (ivAO 0 addR.ps (x0, x1, ())) (bxAO 0 addR.ps (x0, x1, ())))
theorem addR.start  (m : Nat) (x0 : (List (El THost))) (x1 : (El THost)) : addR.go  (m + 1) x0 x1 =
  test (mayTR.pre (x0, Unit.unit)) (
   cond (Bool.not (mayTB x0)) (
    some ((.tup [(.c (.sl THost ([] : List (El THost)))), (.c (.v (.int .i64 (1 : Int))))]), [])) (
    test (mayR.pre (x1, Unit.unit)) (
     cond (Bool.not (mayB x1)) (
      some ((.tup [(.c (.sl THost ([] : List (El THost)))), (.c (.v (.int .i64 (1 : Int))))]), [])) (
      test (findR.pre (x0, (x1.1, Unit.unit))) (
       cond (decide ((ixOf (idH x1.1) x0) ≥ (0 : Int))) (
        some ((.tup [(.c (.sl THost ([] : List (El THost)))), (.c (.v (.int .i64 (3 : Int))))]), [])) (
        cond (decide (((List.length x0) : Int) ≥ (64 : Int))) (
         some ((.tup [(.c (.sl THost ([] : List (El THost)))), (.c (.v (.int .i64 (6 : Int))))]), [])) (
         addR.l1  m false x0 ((List.length x0) : Int) (0 : Int) ([] : List (El THost)) x1.1 x1.2.1 x1.2.2.1 x1.2.2.2.1 x1.2.2.2.2.1 x1.2.2.2.2.2))))))) := by kernel_rfl
theorem addR.s1  (m : Nat) (x0 : Bool) (x1 : List (El THost)) (x2 : Int) (x3 : Int) (x4 : List (El THost)) (x5 : Int) (x6 : ByteArray) (x7 : Int) (x8 : ByteArray) (x9 : Int) (x10 : List (El TPair)) : addR.l1  (m + 1) x0 x1 x2 x3 x4 x5 x6 x7 x8 x9 x10 =
  cond (decide (x3 < x2)) (
   test (decide ((0 : Int) ≤ x3)) (
    test (decide (x3 < ((List.length x1) : Int))) (
     cond (Bool.not x0) (
      cond (decide (((rdEl THost x1 (Int.toNat x3))).1 > x5)) (
       test (copyR.pre ((x5, (x6, (x7, (x8, (x9, x10))))), Unit.unit)) (
        test (decide (((List.length x4) + (List.length ((x5, (x6, (x7, (x8, (x9, x10))))) :: ([] : List (El THost))))) ≤ (lim 80))) (
         test (copyR.pre (((rdEl THost x1 (Int.toNat x3))), Unit.unit)) (
          test (decide (((List.length (x4 ++ ((x5, (x6, (x7, (x8, (x9, x10))))) :: ([] : List (El THost))))) + (List.length (((rdEl THost x1 (Int.toNat x3))) :: ([] : List (El THost))))) ≤ (lim 80))) (
           addR.l1  m true x1 x2 (IntKind.i64.wrap (x3 + (1 : Int))) ((x4 ++ ((x5, (x6, (x7, (x8, (x9, x10))))) :: ([] : List (El THost)))) ++ (((rdEl THost x1 (Int.toNat x3))) :: ([] : List (El THost)))) x5 x6 x7 x8 x9 x10))))) (
       test (copyR.pre (((rdEl THost x1 (Int.toNat x3))), Unit.unit)) (
        test (decide (((List.length x4) + (List.length (((rdEl THost x1 (Int.toNat x3))) :: ([] : List (El THost))))) ≤ (lim 80))) (
         addR.l1  m x0 x1 x2 (IntKind.i64.wrap (x3 + (1 : Int))) (x4 ++ (((rdEl THost x1 (Int.toNat x3))) :: ([] : List (El THost)))) x5 x6 x7 x8 x9 x10)))) (
      test (copyR.pre (((rdEl THost x1 (Int.toNat x3))), Unit.unit)) (
       test (decide (((List.length x4) + (List.length (((rdEl THost x1 (Int.toNat x3))) :: ([] : List (El THost))))) ≤ (lim 80))) (
        addR.l1  m x0 x1 x2 (IntKind.i64.wrap (x3 + (1 : Int))) (x4 ++ (((rdEl THost x1 (Int.toNat x3))) :: ([] : List (El THost)))) x5 x6 x7 x8 x9 x10)))))) (
   cond (Bool.not x0) (
    test (copyR.pre ((x5, (x6, (x7, (x8, (x9, x10))))), Unit.unit)) (
     test (decide (((List.length x4) + (List.length ((x5, (x6, (x7, (x8, (x9, x10))))) :: ([] : List (El THost))))) ≤ (lim 80))) (
      some ((.tup [(.c (.sl THost (x4 ++ ((x5, (x6, (x7, (x8, (x9, x10))))) :: ([] : List (El THost)))))), (.c (.v (.int .i64 (0 : Int))))]), [])))) (
    some ((.tup [(.c (.sl THost x4)), (.c (.v (.int .i64 (0 : Int))))]), []))) := by kernel_rfl
theorem addR.run_eq  (m : Nat) (x0 : (List (El THost))) (x1 : (El THost)) : run (addR.cfg ) Try.f19.ntmps Try.f19.results.toList m [.code (bodyOf Try.f19)] (enterO (ivAO 0 addR.ps (x0, x1, ())) (bxAO 0 addR.ps (x0, x1, ()))) = addR.go  m x0 x1 := by kernel_rfl
theorem addR.ret  (hs : SpecsOK Try.prog (addR.specs ))  (x0 : (List (El THost))) (x1 : (El THost)) {m : Nat} {r : IV} {b : List (Nat × Box)} (h : addR.go  m x0 x1 = some (r, b)) : VE.ReturnsO Try.prog 19 (ivAO 0 addR.ps (x0, x1, ())) (bxAO 0 addR.ps (x0, x1, ())) r b :=
  returnsO_of_run (cfg := addR.cfg ) (cfgOK_of mixed tab_ok hs .nil) rfl Try.func19 (body_some (by kernel_rfl)) (Nat.le_of_ble_eq_true (by kernel_rfl)) (fun _ _ _ h => oids_mem h) ((addR.run_eq  m x0 x1).trans h)
abbrev addR.Law : Prop := ∀ (x0 : (List (El THost))) (x1 : (El THost)), addR.pre (x0, x1, ()) = true → VE.ReturnsO Try.prog 19 (ivAO 0 addR.ps (x0, x1, ())) (bxAO 0 addR.ps (x0, x1, ())) (addR.res (x0, x1, ())) (addR.back (x0, x1, ()))
theorem addR.mkR (H : ∀ (x0 : (List (El THost))) (x1 : (El THost)), addR.pre (x0, x1, ()) = true → VE.ReturnsO Try.prog 19 (ivAO 0 addR.ps (x0, x1, ())) (bxAO 0 addR.ps (x0, x1, ())) (addR.res (x0, x1, ())) (addR.back (x0, x1, ()))) : SpecOKO Try.prog 19 addR.sp :=
  specO_ret Try.func19 (by kernel_rfl) (by kernel_rfl) fun (x : (List (El THost)) × (El THost) × Unit) hx => H (x.1) (x.2.1) hx
theorem addR.mk  (hs : SpecsOK Try.prog (addR.specs ))  (H : ∀ (x0 : (List (El THost))) (x1 : (El THost)), addR.pre (x0, x1, ()) = true → ∃ m, addR.go  m x0 x1 = some (addR.res (x0, x1, ()), addR.back (x0, x1, ()))) : SpecOKO Try.prog 19 addR.sp :=
  addR.mkR fun x0 x1 hx => (H x0 x1 hx).elim fun _ hm => addR.ret  hs  x0 x1 hm

/-! ### triage/table.Cut -/
abbrev cut.ps : List AK := [.d false (.sl THost), .d false (.int .i64)]
def cut.pre : ElA cut.ps → Bool := fun (x : (List (El THost)) × Int × Unit) => fits (.sl THost) (x.1) && (fits (.int .i64) (x.2.1) && (true))
def cut.rv : ElA cut.ps → List RV := fun (x : (List (El THost)) × Int × Unit) => [.d ((fun l i => .c (.sl THost (cutL l i))) x.1 x.2.1), .d ((fun l i => vi .i64 (cutE l i)) x.1 x.2.1)]
def cut.res : ElA cut.ps → IV := fun x => oneOrTup (rvIVs 0 (cut.rv x))
def cut.back : ElA cut.ps → List (Nat × Box) := fun (x : (List (El THost)) × Int × Unit) => rvBxs 0 (cut.rv x)
def cut.sp : OSpec := spO cut.ps cut.pre cut.res cut.back
abbrev cut.OK : Prop := SpecOKO Try.prog 20 cut.sp
noncomputable def cut.body : Code := bodyOf Try.f20
noncomputable def cut.rs : List ResultVar := Try.f20.results.toList
def cut.live : List (Nat × Live) := []
noncomputable def cut.specs  : List (Nat × (List Bool × ISpec)) := [(17, ([], mayT.sp)), (23, ([], find.sp))]
noncomputable def cut.ospecs  : List (Nat × OS) := [(32, ⟨[], [], copied.sp⟩), (38, ⟨[some (.arr 34 THost)], [], del.sp⟩)]
noncomputable def cut.cfg  : Cfg := ⟨lkp tab, lkp (cut.specs ), lkp cut.live, ⟨lkp (cut.ospecs ), oids 0 cut.ps, some ([.sl THost, .plain], []), false, []⟩⟩
noncomputable def cut.go  (m : Nat) (x0 : (List (El THost))) (x1 : Int) : R := run (cut.cfg ) 21 cut.rs m [.code cut.body] (enterO (ivAO 0 cut.ps (x0, x1, ())) (bxAO 0 cut.ps (x0, x1, ())))
theorem cut.start  (m : Nat) (x0 : (List (El THost))) (x1 : Int) : cut.go  (m + 1) x0 x1 =
  test (mayT.pre (x0, Unit.unit)) (
   cond (Bool.not (mayTB x0)) (
    some ((.tup [(.c (.sl THost ([] : List (El THost)))), (.c (.v (.int .i64 (1 : Int))))]), [])) (
    test (find.pre (x0, (x1, Unit.unit))) (
     cond (decide ((ixOf (idH x1) x0) < (0 : Int))) (
      some ((.tup [(.c (.sl THost ([] : List (El THost)))), (.c (.v (.int .i64 (4 : Int))))]), [])) (
      test (copied.pre (x0, Unit.unit)) (
       test (del.pre (x0, ((ixOf (idH x1) x0), ((IntKind.i64.wrap ((ixOf (idH x1) x0) + (1 : Int))), Unit.unit)))) (
        some ((.tup [(.c (.sl THost (cutOut x0 (Int.toNat (ixOf (idH x1) x0)) (Int.toNat (IntKind.i64.wrap ((ixOf (idH x1) x0) + (1 : Int))))))), (.c (.v (.int .i64 (0 : Int))))]), []))))))) := by kernel_rfl
theorem cut.run_eq  (m : Nat) (x0 : (List (El THost))) (x1 : Int) : run (cut.cfg ) Try.f20.ntmps Try.f20.results.toList m [.code (bodyOf Try.f20)] (enterO (ivAO 0 cut.ps (x0, x1, ())) (bxAO 0 cut.ps (x0, x1, ()))) = cut.go  m x0 x1 := by kernel_rfl
theorem cut.ret  (hs : SpecsOK Try.prog (cut.specs )) (ho : OSpecsOK Try.prog (cut.ospecs )) (x0 : (List (El THost))) (x1 : Int) {m : Nat} {r : IV} {b : List (Nat × Box)} (h : cut.go  m x0 x1 = some (r, b)) : VE.ReturnsO Try.prog 20 (ivAO 0 cut.ps (x0, x1, ())) (bxAO 0 cut.ps (x0, x1, ())) r b :=
  returnsO_of_run (cfg := cut.cfg ) (cfgOK_of mixed tab_ok hs ho) rfl Try.func20 (body_some (by kernel_rfl)) (Nat.le_of_ble_eq_true (by kernel_rfl)) (fun _ _ _ h => oids_mem h) ((cut.run_eq  m x0 x1).trans h)
abbrev cut.Law : Prop := ∀ (x0 : (List (El THost))) (x1 : Int), cut.pre (x0, x1, ()) = true → VE.ReturnsO Try.prog 20 (ivAO 0 cut.ps (x0, x1, ())) (bxAO 0 cut.ps (x0, x1, ())) (cut.res (x0, x1, ())) (cut.back (x0, x1, ()))
theorem cut.mkR (H : ∀ (x0 : (List (El THost))) (x1 : Int), cut.pre (x0, x1, ()) = true → VE.ReturnsO Try.prog 20 (ivAO 0 cut.ps (x0, x1, ())) (bxAO 0 cut.ps (x0, x1, ())) (cut.res (x0, x1, ())) (cut.back (x0, x1, ()))) : SpecOKO Try.prog 20 cut.sp :=
  specO_ret Try.func20 (by kernel_rfl) (by kernel_rfl) fun (x : (List (El THost)) × Int × Unit) hx => H (x.1) (x.2.1) hx
theorem cut.mk  (hs : SpecsOK Try.prog (cut.specs )) (ho : OSpecsOK Try.prog (cut.ospecs )) (H : ∀ (x0 : (List (El THost))) (x1 : Int), cut.pre (x0, x1, ()) = true → ∃ m, cut.go  m x0 x1 = some (cut.res (x0, x1, ()), cut.back (x0, x1, ()))) : SpecOKO Try.prog 20 cut.sp :=
  cut.mkR fun x0 x1 hx => (H x0 x1 hx).elim fun _ hm => cut.ret  hs ho x0 x1 hm

/-! ### triage/triageref1.CutHost -/
abbrev cutR.ps : List AK := [.d false (.sl THost), .d false (.int .i64)]
def cutR.pre : ElA cutR.ps → Bool := fun (x : (List (El THost)) × Int × Unit) => fits (.sl THost) (x.1) && (fits (.int .i64) (x.2.1) && (true))
def cutR.rv : ElA cutR.ps → List RV := fun (x : (List (El THost)) × Int × Unit) => [.d ((fun l i => .c (.sl THost (cutL l i))) x.1 x.2.1), .d ((fun l i => vi .i64 (cutE l i)) x.1 x.2.1)]
def cutR.res : ElA cutR.ps → IV := fun x => oneOrTup (rvIVs 0 (cutR.rv x))
def cutR.back : ElA cutR.ps → List (Nat × Box) := fun (x : (List (El THost)) × Int × Unit) => rvBxs 0 (cutR.rv x)
def cutR.sp : OSpec := spO cutR.ps cutR.pre cutR.res cutR.back
abbrev cutR.OK : Prop := SpecOKO Try.prog 21 cutR.sp
noncomputable def cutR.body : Code := bodyOf Try.f21
noncomputable def cutR.rs : List ResultVar := Try.f21.results.toList
def cutR.live : List (Nat × Live) := [(7, ⟨[(1, .plain), (6, .arr 34 THost), (16, .sl THost), (17, .plain), (18, .plain)], []⟩)]
noncomputable def cutR.specs  : List (Nat × (List Bool × ISpec)) := [(9, ([], mayTR.sp)), (14, ([], findR.sp)), (37, ([], copyR.sp))]
noncomputable def cutR.ospecs  : List (Nat × OS) := []
noncomputable def cutR.cfg  : Cfg := ⟨lkp tab, lkp (cutR.specs ), lkp cutR.live, ⟨lkp (cutR.ospecs ), oids 0 cutR.ps, some ([.sl THost, .plain], []), false, []⟩⟩
noncomputable def cutR.l1  (m : Nat) (x0 : Int) (x1 : List (El THost)) (x2 : Int) (x3 : Int) (x4 : List (El THost)) : R := run (cutR.cfg ) 33 cutR.rs m ((todoR 7 cutR.body []).getD []) ⟨ofList (.c .junk) [(1, (.c (.v (.int .i64 x0)))), (6, (.c (.sref 894))), (16, (.c (.sl THost x1))), (17, (.c (.v (.int .i64 x2)))), (18, (.c (.v (.int .i64 x3))))], ofList none [(894, some (.arr 34 THost x4 false))], ofList false [(894, true)]⟩
noncomputable def cutR.go  (m : Nat) (x0 : (List (El THost))) (x1 : Int) : R := run (cutR.cfg ) 33 cutR.rs m [.code cutR.body] (enterO (ivAO 0 cutR.ps (x0, x1, ())) (bxAO 0 cutR.ps (x0, x1, ())))
theorem cutR.start  (m : Nat) (x0 : (List (El THost))) (x1 : Int) : cutR.go  (m + 1) x0 x1 =
  test (mayTR.pre (x0, Unit.unit)) (
   cond (Bool.not (mayTB x0)) (
    some ((.tup [(.c (.sl THost ([] : List (El THost)))), (.c (.v (.int .i64 (1 : Int))))]), [])) (
    test (findR.pre (x0, (x1, Unit.unit))) (
     cond (decide ((ixOf (idH x1) x0) < (0 : Int))) (
      some ((.tup [(.c (.sl THost ([] : List (El THost)))), (.c (.v (.int .i64 (4 : Int))))]), [])) (
      cutR.l1  m x1 x0 ((List.length x0) : Int) (0 : Int) ([] : List (El THost)))))) := by kernel_rfl
theorem cutR.s1  (m : Nat) (x0 : Int) (x1 : List (El THost)) (x2 : Int) (x3 : Int) (x4 : List (El THost)) : cutR.l1  (m + 1) x0 x1 x2 x3 x4 =
  cond (decide (x3 < x2)) (
   test (decide ((0 : Int) ≤ x3)) (
    test (decide (x3 < ((List.length x1) : Int))) (
     cond (bne ((rdEl THost x1 (Int.toNat x3))).1 x0) (
      test (copyR.pre (((rdEl THost x1 (Int.toNat x3))), Unit.unit)) (
       test (decide (((List.length x4) + (List.length (((rdEl THost x1 (Int.toNat x3))) :: ([] : List (El THost))))) ≤ (lim 80))) (
        cutR.l1  m x0 x1 x2 (IntKind.i64.wrap (x3 + (1 : Int))) (x4 ++ (((rdEl THost x1 (Int.toNat x3))) :: ([] : List (El THost))))))) (
      cutR.l1  m x0 x1 x2 (IntKind.i64.wrap (x3 + (1 : Int))) x4)))) (
   some ((.tup [(.c (.sl THost x4)), (.c (.v (.int .i64 (0 : Int))))]), [])) := by kernel_rfl
theorem cutR.run_eq  (m : Nat) (x0 : (List (El THost))) (x1 : Int) : run (cutR.cfg ) Try.f21.ntmps Try.f21.results.toList m [.code (bodyOf Try.f21)] (enterO (ivAO 0 cutR.ps (x0, x1, ())) (bxAO 0 cutR.ps (x0, x1, ()))) = cutR.go  m x0 x1 := by kernel_rfl
theorem cutR.ret  (hs : SpecsOK Try.prog (cutR.specs ))  (x0 : (List (El THost))) (x1 : Int) {m : Nat} {r : IV} {b : List (Nat × Box)} (h : cutR.go  m x0 x1 = some (r, b)) : VE.ReturnsO Try.prog 21 (ivAO 0 cutR.ps (x0, x1, ())) (bxAO 0 cutR.ps (x0, x1, ())) r b :=
  returnsO_of_run (cfg := cutR.cfg ) (cfgOK_of mixed tab_ok hs .nil) rfl Try.func21 (body_some (by kernel_rfl)) (Nat.le_of_ble_eq_true (by kernel_rfl)) (fun _ _ _ h => oids_mem h) ((cutR.run_eq  m x0 x1).trans h)
abbrev cutR.Law : Prop := ∀ (x0 : (List (El THost))) (x1 : Int), cutR.pre (x0, x1, ()) = true → VE.ReturnsO Try.prog 21 (ivAO 0 cutR.ps (x0, x1, ())) (bxAO 0 cutR.ps (x0, x1, ())) (cutR.res (x0, x1, ())) (cutR.back (x0, x1, ()))
theorem cutR.mkR (H : ∀ (x0 : (List (El THost))) (x1 : Int), cutR.pre (x0, x1, ()) = true → VE.ReturnsO Try.prog 21 (ivAO 0 cutR.ps (x0, x1, ())) (bxAO 0 cutR.ps (x0, x1, ())) (cutR.res (x0, x1, ())) (cutR.back (x0, x1, ()))) : SpecOKO Try.prog 21 cutR.sp :=
  specO_ret Try.func21 (by kernel_rfl) (by kernel_rfl) fun (x : (List (El THost)) × Int × Unit) hx => H (x.1) (x.2.1) hx
theorem cutR.mk  (hs : SpecsOK Try.prog (cutR.specs ))  (H : ∀ (x0 : (List (El THost))) (x1 : Int), cutR.pre (x0, x1, ()) = true → ∃ m, cutR.go  m x0 x1 = some (cutR.res (x0, x1, ()), cutR.back (x0, x1, ()))) : SpecOKO Try.prog 21 cutR.sp :=
  cutR.mkR fun x0 x1 hx => (H x0 x1 hx).elim fun _ hm => cutR.ret  hs  x0 x1 hm

/-! ### slices.Index(()int,int) -/
abbrev ixI.ps : List AK := [.d false (.sl (.int .i64)), .d false (.int .i64)]
def ixI.pre : ElA ixI.ps → Bool := fun (x : (List Int) × Int × Unit) => fits (.sl (.int .i64)) (x.1) && (fits (.int .i64) (x.2.1) && (true))
def ixI.res : ElA ixI.ps → IV := fun (x : (List Int) × Int × Unit) => (fun l p => vi .i64 (ixOf (intEq p) l)) x.1 x.2.1
def ixI.sp : ISpec := spOf ixI.ps ixI.pre ixI.res
abbrev ixI.OK : Prop := SpecOK Try.prog 42 ixI.sp
noncomputable def ixI.body : Code := bodyOf Try.f42
noncomputable def ixI.rs : List ResultVar := Try.f42.results.toList
def ixI.live : List (Nat × Live) := [(2, ⟨[(0, .sl (.int .i64)), (1, .plain), (7, .plain), (8, .plain)], []⟩)]
noncomputable def ixI.specs  : List (Nat × (List Bool × ISpec)) := []
noncomputable def ixI.ospecs  : List (Nat × OS) := []
noncomputable def ixI.cfg  : Cfg := ⟨lkp tab, lkp (ixI.specs ), lkp ixI.live, ⟨lkp (ixI.ospecs ), [], none, false, []⟩⟩
noncomputable def ixI.l1  (m : Nat) (x0 : List Int) (x1 : Int) (x2 : Int) (x3 : Int) : R := run (ixI.cfg ) 19 ixI.rs m ((todoR 2 ixI.body []).getD []) ⟨ofList (.c .junk) [(0, (.c (.sl (.int .i64) x0))), (1, (.c (.v (.int .i64 x1)))), (7, (.c (.v (.int .i64 x2)))), (8, (.c (.v (.int .i64 x3))))], ofList none [], ofList false []⟩
noncomputable def ixI.go  (m : Nat) (x0 : (List Int)) (x1 : Int) : R := run (ixI.cfg ) 19 ixI.rs m [.code ixI.body] (enter (ivA ixI.ps (x0, x1, ())))
theorem ixI.start  (m : Nat) (x0 : (List Int)) (x1 : Int) : ixI.go  (m + 1) x0 x1 =
  ixI.l1  m x0 x1 ((List.length x0) : Int) (0 : Int) := by kernel_rfl
theorem ixI.s1  (m : Nat) (x0 : List Int) (x1 : Int) (x2 : Int) (x3 : Int) : ixI.l1  (m + 1) x0 x1 x2 x3 =
  cond (decide (x3 < x2)) (
   test (decide ((0 : Int) ≤ x3)) (
    test (decide (x3 < ((List.length x0) : Int))) (
     cond (x1 == (rdEl (.int .i64) x0 (Int.toNat x3))) (
      some ((.c (.v (.int .i64 x3))), [])) (
      ixI.l1  m x0 x1 x2 (IntKind.i64.wrap (x3 + (1 : Int))))))) (
   some ((.c (.v (.int .i64 (-(1 : Int))))), [])) := by kernel_rfl
theorem ixI.run_eq  (m : Nat) (x0 : (List Int)) (x1 : Int) : run (ixI.cfg ) Try.f42.ntmps Try.f42.results.toList m [.code (bodyOf Try.f42)] (enter (ivA ixI.ps (x0, x1, ()))) = ixI.go  m x0 x1 := by kernel_rfl
theorem ixI.ret  (hs : SpecsOK Try.prog (ixI.specs ))  (x0 : (List Int)) (x1 : Int) {m : Nat} {r : IV} (h : ixI.go  m x0 x1 = some (r, [])) : VE.Returns Try.prog 42 (ivA ixI.ps (x0, x1, ())) r :=
  returns_of_run (cfg := ixI.cfg ) (cfgOK_of mixed tab_ok hs .nil) rfl Try.func42 (body_some (by kernel_rfl)) (Nat.le_of_ble_eq_true (by kernel_rfl)) ((ixI.run_eq  m x0 x1).trans h)
abbrev ixI.Law : Prop := ∀ (x0 : (List Int)) (x1 : Int), ixI.pre (x0, x1, ()) = true → VE.Returns Try.prog 42 (ivA ixI.ps (x0, x1, ())) (ixI.res (x0, x1, ()))
theorem ixI.mkR (H : ∀ (x0 : (List Int)) (x1 : Int), ixI.pre (x0, x1, ()) = true → VE.Returns Try.prog 42 (ivA ixI.ps (x0, x1, ())) (ixI.res (x0, x1, ()))) : SpecOK Try.prog 42 ixI.sp :=
  specOf_ret Try.func42 (by kernel_rfl) (by kernel_rfl) fun (x : (List Int) × Int × Unit) hx => H (x.1) (x.2.1) hx
theorem ixI.mk  (hs : SpecsOK Try.prog (ixI.specs ))  (H : ∀ (x0 : (List Int)) (x1 : Int), ixI.pre (x0, x1, ()) = true → ∃ m, ixI.go  m x0 x1 = some (ixI.res (x0, x1, ()), [])) : SpecOK Try.prog 42 ixI.sp :=
  ixI.mkR fun x0 x1 hx => (H x0 x1 hx).elim fun _ hm => ixI.ret  hs  x0 x1 hm

/-! ### slices.Contains(()int,int) -/
abbrev contI.ps : List AK := [.d false (.sl (.int .i64)), .d false (.int .i64)]
def contI.pre : ElA contI.ps → Bool := fun (x : (List Int) × Int × Unit) => fits (.sl (.int .i64)) (x.1) && (fits (.int .i64) (x.2.1) && (true))
def contI.res : ElA contI.ps → IV := fun (x : (List Int) × Int × Unit) => (fun l p => vb (List.any l (intEq p))) x.1 x.2.1
def contI.sp : ISpec := spOf contI.ps contI.pre contI.res
abbrev contI.OK : Prop := SpecOK Try.prog 25 contI.sp
noncomputable def contI.body : Code := bodyOf Try.f25
noncomputable def contI.rs : List ResultVar := Try.f25.results.toList
def contI.live : List (Nat × Live) := []
noncomputable def contI.specs  : List (Nat × (List Bool × ISpec)) := [(42, ([], ixI.sp))]
noncomputable def contI.ospecs  : List (Nat × OS) := []
noncomputable def contI.cfg  : Cfg := ⟨lkp tab, lkp (contI.specs ), lkp contI.live, ⟨lkp (contI.ospecs ), [], none, false, []⟩⟩
noncomputable def contI.go  (m : Nat) (x0 : (List Int)) (x1 : Int) : R := run (contI.cfg ) 9 contI.rs m [.code contI.body] (enter (ivA contI.ps (x0, x1, ())))
theorem contI.start  (m : Nat) (x0 : (List Int)) (x1 : Int) : contI.go  (m + 1) x0 x1 =
  test (ixI.pre (x0, (x1, Unit.unit))) (
   some ((.c (.v (.bool (decide ((ixOf (intEq x1) x0) ≥ (0 : Int)))))), [])) := by kernel_rfl
theorem contI.run_eq  (m : Nat) (x0 : (List Int)) (x1 : Int) : run (contI.cfg ) Try.f25.ntmps Try.f25.results.toList m [.code (bodyOf Try.f25)] (enter (ivA contI.ps (x0, x1, ()))) = contI.go  m x0 x1 := by kernel_rfl
theorem contI.ret  (hs : SpecsOK Try.prog (contI.specs ))  (x0 : (List Int)) (x1 : Int) {m : Nat} {r : IV} (h : contI.go  m x0 x1 = some (r, [])) : VE.Returns Try.prog 25 (ivA contI.ps (x0, x1, ())) r :=
  returns_of_run (cfg := contI.cfg ) (cfgOK_of mixed tab_ok hs .nil) rfl Try.func25 (body_some (by kernel_rfl)) (Nat.le_of_ble_eq_true (by kernel_rfl)) ((contI.run_eq  m x0 x1).trans h)
abbrev contI.Law : Prop := ∀ (x0 : (List Int)) (x1 : Int), contI.pre (x0, x1, ()) = true → VE.Returns Try.prog 25 (ivA contI.ps (x0, x1, ())) (contI.res (x0, x1, ()))
theorem contI.mkR (H : ∀ (x0 : (List Int)) (x1 : Int), contI.pre (x0, x1, ()) = true → VE.Returns Try.prog 25 (ivA contI.ps (x0, x1, ())) (contI.res (x0, x1, ()))) : SpecOK Try.prog 25 contI.sp :=
  specOf_ret Try.func25 (by kernel_rfl) (by kernel_rfl) fun (x : (List Int) × Int × Unit) hx => H (x.1) (x.2.1) hx
theorem contI.mk  (hs : SpecsOK Try.prog (contI.specs ))  (H : ∀ (x0 : (List Int)) (x1 : Int), contI.pre (x0, x1, ()) = true → ∃ m, contI.go  m x0 x1 = some (contI.res (x0, x1, ()), [])) : SpecOK Try.prog 25 contI.sp :=
  contI.mkR fun x0 x1 hx => (H x0 x1 hx).elim fun _ hm => contI.ret  hs  x0 x1 hm

/-! ### triage/table.Change -/
abbrev change.ps : List AK := [.d false (.sl THost), .d false (.sl THost)]
def change.pre : ElA change.ps → Bool := fun (x : (List (El THost)) × (List (El THost)) × Unit) => fits (.sl THost) (x.1) && (fits (.sl THost) (x.2.1) && (true))
def change.rv : ElA change.ps → List RV := fun (x : (List (El THost)) × (List (El THost)) × Unit) => [.d ((fun l m => .c (.sl (.int .i64) (comeL l m))) x.1 x.2.1), .d ((fun l m => .c (.sl (.int .i64) (goneL l m))) x.1 x.2.1), .d ((fun l m => .c (.sl (.int .i64) (stayL l m))) x.1 x.2.1), .d ((fun l m => vi .i64 (changeE l m)) x.1 x.2.1)]
def change.res : ElA change.ps → IV := fun x => oneOrTup (rvIVs 0 (change.rv x))
def change.back : ElA change.ps → List (Nat × Box) := fun (x : (List (El THost)) × (List (El THost)) × Unit) => rvBxs 0 (change.rv x)
def change.sp : OSpec := spO change.ps change.pre change.res change.back
abbrev change.OK : Prop := SpecOKO Try.prog 11 change.sp
noncomputable def change.body : Code := bodyOf Try.f11
noncomputable def change.rs : List ResultVar := Try.f11.results.toList
def change.live : List (Nat × Live) := [(12, ⟨[(4, .arr 3 (.int .i64)), (5, .arr 3 (.int .i64)), (6, .arr 3 (.int .i64)), (54, .sl THost), (55, .plain), (56, .plain)], []⟩), (4, ⟨[(0, .sl THost), (4, .arr 3 (.int .i64)), (5, .arr 3 (.int .i64)), (6, .arr 3 (.int .i64)), (21, .sl THost), (22, .plain), (23, .plain)], []⟩)]
noncomputable def change.specs  : List (Nat × (List Bool × ISpec)) := [(17, ([], mayT.sp)), (23, ([], find.sp)), (25, ([], contI.sp))]
noncomputable def change.ospecs  : List (Nat × OS) := []
noncomputable def change.cfg  : Cfg := ⟨lkp tab, lkp (change.specs ), lkp change.live, ⟨lkp (change.ospecs ), oids 0 change.ps, some ([.sl (.int .i64), .sl (.int .i64), .sl (.int .i64), .plain], []), false, []⟩⟩
noncomputable def change.l1  (m : Nat) (x0 : List (El THost)) (x1 : List (El THost)) (x2 : Int) (x3 : Int) (x4 : List Int) (x5 : List Int) (x6 : List Int) : R := run (change.cfg ) 74 change.rs m ((todoR 4 change.body []).getD []) ⟨ofList (.c .junk) [(0, (.c (.sl THost x0))), (4, (.c (.sref 638))), (5, (.c (.sref 766))), (6, (.c (.sref 894))), (21, (.c (.sl THost x1))), (22, (.c (.v (.int .i64 x2)))), (23, (.c (.v (.int .i64 x3))))], ofList none [(638, some (.arr 3 (.int .i64) x4 false)), (766, some (.arr 3 (.int .i64) x5 false)), (894, some (.arr 3 (.int .i64) x6 false))], ofList false [(638, true), (766, true), (894, true)]⟩
noncomputable def change.l2  (m : Nat) (x0 : List (El THost)) (x1 : Int) (x2 : Int) (x3 : List Int) (x4 : List Int) (x5 : List Int) : R := run (change.cfg ) 74 change.rs m ((todoR 12 change.body []).getD []) ⟨ofList (.c .junk) [(4, (.c (.sref 638))), (5, (.c (.sref 766))), (6, (.c (.sref 894))), (54, (.c (.sl THost x0))), (55, (.c (.v (.int .i64 x1)))), (56, (.c (.v (.int .i64 x2))))], ofList none [(638, some (.arr 3 (.int .i64) x3 false)), (766, some (.arr 3 (.int .i64) x4 false)), (894, some (.arr 3 (.int .i64) x5 false))], ofList false [(638, true), (766, true), (894, true)]⟩
noncomputable def change.go  (m : Nat) (x0 : (List (El THost))) (x1 : (List (El THost))) : R := run (change.cfg ) 74 change.rs m [.code change.body] (enterO (ivAO 0 change.ps (x0, x1, ())) (bxAO 0 change.ps (x0, x1, ())))
theorem change.start  (m : Nat) (x0 : (List (El THost))) (x1 : (List (El THost))) : change.go  (m + 1) x0 x1 =
  test (mayT.pre (x0, Unit.unit)) (
   cond (Bool.not (mayTB x0)) (
    some ((.tup [(.c (.sl (.int .i64) ([] : List Int))), (.c (.sl (.int .i64) ([] : List Int))), (.c (.sl (.int .i64) ([] : List Int))), (.c (.v (.int .i64 (1 : Int))))]), [])) (
    test (mayT.pre (x1, Unit.unit)) (
     cond (Bool.not (mayTB x1)) (
      some ((.tup [(.c (.sl (.int .i64) ([] : List Int))), (.c (.sl (.int .i64) ([] : List Int))), (.c (.sl (.int .i64) ([] : List Int))), (.c (.v (.int .i64 (1 : Int))))]), [])) (
      change.l1  m x0 x1 ((List.length x1) : Int) (0 : Int) ([] : List Int) ([] : List Int) ([] : List Int))))) := by kernel_rfl
theorem change.s1  (m : Nat) (x0 : List (El THost)) (x1 : List (El THost)) (x2 : Int) (x3 : Int) (x4 : List Int) (x5 : List Int) (x6 : List Int) : change.l1  (m + 1) x0 x1 x2 x3 x4 x5 x6 =
  cond (decide (x3 < x2)) (
   test (decide ((0 : Int) ≤ x3)) (
    test (decide (x3 < ((List.length x1) : Int))) (
     test (find.pre (x0, (((rdEl THost x1 (Int.toNat x3))).1, Unit.unit))) (
      cond (decide ((ixOf (idH ((rdEl THost x1 (Int.toNat x3))).1) x0) ≥ (0 : Int))) (
       test (decide ((0 : Int) ≤ (ixOf (idH ((rdEl THost x1 (Int.toNat x3))).1) x0))) (
        test (decide ((ixOf (idH ((rdEl THost x1 (Int.toNat x3))).1) x0) < ((List.length x0) : Int))) (
         cond ((ByteArray.toList (((rdEl THost x0 (Int.toNat (ixOf (idH ((rdEl THost x1 (Int.toNat x3))).1) x0)))).2).1) == (ByteArray.toList (((rdEl THost x1 (Int.toNat x3))).2).1)) (
          test (decide (((List.length x6) + (List.length (((rdEl THost x1 (Int.toNat x3))).1 :: ([] : List Int)))) ≤ (lim 8))) (
           change.l1  m x0 x1 x2 (IntKind.i64.wrap (x3 + (1 : Int))) x4 x5 (x6 ++ (((rdEl THost x1 (Int.toNat x3))).1 :: ([] : List Int))))) (
          test (decide (((List.length x4) + (List.length (((rdEl THost x1 (Int.toNat x3))).1 :: ([] : List Int)))) ≤ (lim 8))) (
           change.l1  m x0 x1 x2 (IntKind.i64.wrap (x3 + (1 : Int))) (x4 ++ (((rdEl THost x1 (Int.toNat x3))).1 :: ([] : List Int))) x5 x6))))) (
       test (decide (((List.length x4) + (List.length (((rdEl THost x1 (Int.toNat x3))).1 :: ([] : List Int)))) ≤ (lim 8))) (
        change.l1  m x0 x1 x2 (IntKind.i64.wrap (x3 + (1 : Int))) (x4 ++ (((rdEl THost x1 (Int.toNat x3))).1 :: ([] : List Int))) x5 x6)))))) (
   change.l2  m x0 ((List.length x0) : Int) (0 : Int) x4 x5 x6) := by kernel_rfl
theorem change.s2  (m : Nat) (x0 : List (El THost)) (x1 : Int) (x2 : Int) (x3 : List Int) (x4 : List Int) (x5 : List Int) : change.l2  (m + 1) x0 x1 x2 x3 x4 x5 =
  cond (decide (x2 < x1)) (
   test (decide ((0 : Int) ≤ x2)) (
    test (decide (x2 < ((List.length x0) : Int))) (
     test (contI.pre (x5, (((rdEl THost x0 (Int.toNat x2))).1, Unit.unit))) (
      cond (Bool.not (List.any x5 (intEq ((rdEl THost x0 (Int.toNat x2))).1))) (
       test (decide (((List.length x4) + (List.length (((rdEl THost x0 (Int.toNat x2))).1 :: ([] : List Int)))) ≤ (lim 8))) (
        change.l2  m x0 x1 (IntKind.i64.wrap (x2 + (1 : Int))) x3 (x4 ++ (((rdEl THost x0 (Int.toNat x2))).1 :: ([] : List Int))) x5)) (
       change.l2  m x0 x1 (IntKind.i64.wrap (x2 + (1 : Int))) x3 x4 x5))))) (
   some ((.tup [(.c (.sl (.int .i64) x3)), (.c (.sl (.int .i64) x4)), (.c (.sl (.int .i64) x5)), (.c (.v (.int .i64 (0 : Int))))]), [])) := by kernel_rfl
theorem change.run_eq  (m : Nat) (x0 : (List (El THost))) (x1 : (List (El THost))) : run (change.cfg ) Try.f11.ntmps Try.f11.results.toList m [.code (bodyOf Try.f11)] (enterO (ivAO 0 change.ps (x0, x1, ())) (bxAO 0 change.ps (x0, x1, ()))) = change.go  m x0 x1 := by kernel_rfl
theorem change.ret  (hs : SpecsOK Try.prog (change.specs ))  (x0 : (List (El THost))) (x1 : (List (El THost))) {m : Nat} {r : IV} {b : List (Nat × Box)} (h : change.go  m x0 x1 = some (r, b)) : VE.ReturnsO Try.prog 11 (ivAO 0 change.ps (x0, x1, ())) (bxAO 0 change.ps (x0, x1, ())) r b :=
  returnsO_of_run (cfg := change.cfg ) (cfgOK_of mixed tab_ok hs .nil) rfl Try.func11 (body_some (by kernel_rfl)) (Nat.le_of_ble_eq_true (by kernel_rfl)) (fun _ _ _ h => oids_mem h) ((change.run_eq  m x0 x1).trans h)
abbrev change.Law : Prop := ∀ (x0 : (List (El THost))) (x1 : (List (El THost))), change.pre (x0, x1, ()) = true → VE.ReturnsO Try.prog 11 (ivAO 0 change.ps (x0, x1, ())) (bxAO 0 change.ps (x0, x1, ())) (change.res (x0, x1, ())) (change.back (x0, x1, ()))
theorem change.mkR (H : ∀ (x0 : (List (El THost))) (x1 : (List (El THost))), change.pre (x0, x1, ()) = true → VE.ReturnsO Try.prog 11 (ivAO 0 change.ps (x0, x1, ())) (bxAO 0 change.ps (x0, x1, ())) (change.res (x0, x1, ())) (change.back (x0, x1, ()))) : SpecOKO Try.prog 11 change.sp :=
  specO_ret Try.func11 (by kernel_rfl) (by kernel_rfl) fun (x : (List (El THost)) × (List (El THost)) × Unit) hx => H (x.1) (x.2.1) hx
theorem change.mk  (hs : SpecsOK Try.prog (change.specs ))  (H : ∀ (x0 : (List (El THost))) (x1 : (List (El THost))), change.pre (x0, x1, ()) = true → ∃ m, change.go  m x0 x1 = some (change.res (x0, x1, ()), change.back (x0, x1, ()))) : SpecOKO Try.prog 11 change.sp :=
  change.mkR fun x0 x1 hx => (H x0 x1 hx).elim fun _ hm => change.ret  hs  x0 x1 hm

/-! ### triage/triageref1.Change -/
abbrev changeR.ps : List AK := [.d false (.sl THost), .d false (.sl THost)]
def changeR.pre : ElA changeR.ps → Bool := fun (x : (List (El THost)) × (List (El THost)) × Unit) => fits (.sl THost) (x.1) && (fits (.sl THost) (x.2.1) && (true))
def changeR.rv : ElA changeR.ps → List RV := fun (x : (List (El THost)) × (List (El THost)) × Unit) => [.d ((fun l m => .c (.sl (.int .i64) (comeL l m))) x.1 x.2.1), .d ((fun l m => .c (.sl (.int .i64) (goneR l m))) x.1 x.2.1), .d ((fun l m => .c (.sl (.int .i64) (stayL l m))) x.1 x.2.1), .d ((fun l m => vi .i64 (changeE l m)) x.1 x.2.1)]
def changeR.res : ElA changeR.ps → IV := fun x => oneOrTup (rvIVs 0 (changeR.rv x))
def changeR.back : ElA changeR.ps → List (Nat × Box) := fun (x : (List (El THost)) × (List (El THost)) × Unit) => rvBxs 0 (changeR.rv x)
def changeR.sp : OSpec := spO changeR.ps changeR.pre changeR.res changeR.back
abbrev changeR.OK : Prop := SpecOKO Try.prog 22 changeR.sp
noncomputable def changeR.body : Code := bodyOf Try.f22
noncomputable def changeR.rs : List ResultVar := Try.f22.results.toList
def changeR.live : List (Nat × Live) := [(13, ⟨[(1, .sl THost), (8, .arr 3 (.int .i64)), (9, .arr 3 (.int .i64)), (10, .arr 3 (.int .i64)), (58, .sl THost), (59, .plain), (60, .plain)], []⟩), (5, ⟨[(0, .sl THost), (1, .sl THost), (8, .arr 3 (.int .i64)), (9, .arr 3 (.int .i64)), (10, .arr 3 (.int .i64)), (25, .sl THost), (26, .plain), (27, .plain)], []⟩)]
noncomputable def changeR.specs  : List (Nat × (List Bool × ISpec)) := [(9, ([], mayTR.sp)), (14, ([], findR.sp))]
noncomputable def changeR.ospecs  : List (Nat × OS) := []
noncomputable def changeR.cfg  : Cfg := ⟨lkp tab, lkp (changeR.specs ), lkp changeR.live, ⟨lkp (changeR.ospecs ), oids 0 changeR.ps, some ([.sl (.int .i64), .sl (.int .i64), .sl (.int .i64), .plain], []), false, []⟩⟩
noncomputable def changeR.l1  (m : Nat) (x0 : List (El THost)) (x1 : List (El THost)) (x2 : List (El THost)) (x3 : Int) (x4 : Int) (x5 : List Int) (x6 : List Int) (x7 : List Int) : R := run (changeR.cfg ) 89 changeR.rs m ((todoR 5 changeR.body []).getD []) ⟨ofList (.c .junk) [(0, (.c (.sl THost x0))), (1, (.c (.sl THost x1))), (8, (.c (.sref 1150))), (9, (.c (.sref 1278))), (10, (.c (.sref 1406))), (25, (.c (.sl THost x2))), (26, (.c (.v (.int .i64 x3)))), (27, (.c (.v (.int .i64 x4))))], ofList none [(1150, some (.arr 3 (.int .i64) x5 false)), (1278, some (.arr 3 (.int .i64) x6 false)), (1406, some (.arr 3 (.int .i64) x7 false))], ofList false [(1150, true), (1278, true), (1406, true)]⟩
noncomputable def changeR.l2  (m : Nat) (x0 : List (El THost)) (x1 : List (El THost)) (x2 : Int) (x3 : Int) (x4 : List Int) (x5 : List Int) (x6 : List Int) : R := run (changeR.cfg ) 89 changeR.rs m ((todoR 13 changeR.body []).getD []) ⟨ofList (.c .junk) [(1, (.c (.sl THost x0))), (8, (.c (.sref 1150))), (9, (.c (.sref 1278))), (10, (.c (.sref 1406))), (58, (.c (.sl THost x1))), (59, (.c (.v (.int .i64 x2)))), (60, (.c (.v (.int .i64 x3))))], ofList none [(1150, some (.arr 3 (.int .i64) x4 false)), (1278, some (.arr 3 (.int .i64) x5 false)), (1406, some (.arr 3 (.int .i64) x6 false))], ofList false [(1150, true), (1278, true), (1406, true)]⟩
noncomputable def changeR.go  (m : Nat) (x0 : (List (El THost))) (x1 : (List (El THost))) : R := run (changeR.cfg ) 89 changeR.rs m [.code changeR.body] (enterO (ivAO 0 changeR.ps (x0, x1, ())) (bxAO 0 changeR.ps (x0, x1, ())))
theorem changeR.start  (m : Nat) (x0 : (List (El THost))) (x1 : (List (El THost))) : changeR.go  (m + 1) x0 x1 =
  test (mayTR.pre (x0, Unit.unit)) (
   cond (Bool.not (mayTB x0)) (
    some ((.tup [(.c (.sl (.int .i64) ([] : List Int))), (.c (.sl (.int .i64) ([] : List Int))), (.c (.sl (.int .i64) ([] : List Int))), (.c (.v (.int .i64 (1 : Int))))]), [])) (
    test (mayTR.pre (x1, Unit.unit)) (
     cond (Bool.not (mayTB x1)) (
      some ((.tup [(.c (.sl (.int .i64) ([] : List Int))), (.c (.sl (.int .i64) ([] : List Int))), (.c (.sl (.int .i64) ([] : List Int))), (.c (.v (.int .i64 (1 : Int))))]), [])) (
      changeR.l1  m x0 x1 x1 ((List.length x1) : Int) (0 : Int) ([] : List Int) ([] : List Int) ([] : List Int))))) := by kernel_rfl
theorem changeR.s1  (m : Nat) (x0 : List (El THost)) (x1 : List (El THost)) (x2 : List (El THost)) (x3 : Int) (x4 : Int) (x5 : List Int) (x6 : List Int) (x7 : List Int) : changeR.l1  (m + 1) x0 x1 x2 x3 x4 x5 x6 x7 =
  cond (decide (x4 < x3)) (
   test (decide ((0 : Int) ≤ x4)) (
    test (decide (x4 < ((List.length x2) : Int))) (
     test (findR.pre (x0, (((rdEl THost x2 (Int.toNat x4))).1, Unit.unit))) (
      cond (decide ((ixOf (idH ((rdEl THost x2 (Int.toNat x4))).1) x0) ≥ (0 : Int))) (
       test (decide ((0 : Int) ≤ (ixOf (idH ((rdEl THost x2 (Int.toNat x4))).1) x0))) (
        test (decide ((ixOf (idH ((rdEl THost x2 (Int.toNat x4))).1) x0) < ((List.length x0) : Int))) (
         cond ((ByteArray.toList (((rdEl THost x0 (Int.toNat (ixOf (idH ((rdEl THost x2 (Int.toNat x4))).1) x0)))).2).1) == (ByteArray.toList (((rdEl THost x2 (Int.toNat x4))).2).1)) (
          test (decide (((List.length x7) + (List.length (((rdEl THost x2 (Int.toNat x4))).1 :: ([] : List Int)))) ≤ (lim 8))) (
           changeR.l1  m x0 x1 x2 x3 (IntKind.i64.wrap (x4 + (1 : Int))) x5 x6 (x7 ++ (((rdEl THost x2 (Int.toNat x4))).1 :: ([] : List Int))))) (
          test (decide (((List.length x5) + (List.length (((rdEl THost x2 (Int.toNat x4))).1 :: ([] : List Int)))) ≤ (lim 8))) (
           changeR.l1  m x0 x1 x2 x3 (IntKind.i64.wrap (x4 + (1 : Int))) (x5 ++ (((rdEl THost x2 (Int.toNat x4))).1 :: ([] : List Int))) x6 x7))))) (
       test (decide (((List.length x5) + (List.length (((rdEl THost x2 (Int.toNat x4))).1 :: ([] : List Int)))) ≤ (lim 8))) (
        changeR.l1  m x0 x1 x2 x3 (IntKind.i64.wrap (x4 + (1 : Int))) (x5 ++ (((rdEl THost x2 (Int.toNat x4))).1 :: ([] : List Int))) x6 x7)))))) (
   changeR.l2  m x1 x0 ((List.length x0) : Int) (0 : Int) x5 x6 x7) := by kernel_rfl
theorem changeR.s2  (m : Nat) (x0 : List (El THost)) (x1 : List (El THost)) (x2 : Int) (x3 : Int) (x4 : List Int) (x5 : List Int) (x6 : List Int) : changeR.l2  (m + 1) x0 x1 x2 x3 x4 x5 x6 =
  cond (decide (x3 < x2)) (
   test (decide ((0 : Int) ≤ x3)) (
    test (decide (x3 < ((List.length x1) : Int))) (
     test (findR.pre (x0, (((rdEl THost x1 (Int.toNat x3))).1, Unit.unit))) (
      cond (decide ((ixOf (idH ((rdEl THost x1 (Int.toNat x3))).1) x0) < (0 : Int))) (
       test (decide (((List.length x5) + (List.length (((rdEl THost x1 (Int.toNat x3))).1 :: ([] : List Int)))) ≤ (lim 8))) (
        changeR.l2  m x0 x1 x2 (IntKind.i64.wrap (x3 + (1 : Int))) x4 (x5 ++ (((rdEl THost x1 (Int.toNat x3))).1 :: ([] : List Int))) x6)) (
       test (decide ((0 : Int) ≤ (ixOf (idH ((rdEl THost x1 (Int.toNat x3))).1) x0))) (
        test (decide ((ixOf (idH ((rdEl THost x1 (Int.toNat x3))).1) x0) < ((List.length x0) : Int))) (
         cond (Bool.not ((ByteArray.toList (((rdEl THost x0 (Int.toNat (ixOf (idH ((rdEl THost x1 (Int.toNat x3))).1) x0)))).2).1) == (ByteArray.toList (((rdEl THost x1 (Int.toNat x3))).2).1))) (
          test (decide (((List.length x5) + (List.length (((rdEl THost x1 (Int.toNat x3))).1 :: ([] : List Int)))) ≤ (lim 8))) (
           changeR.l2  m x0 x1 x2 (IntKind.i64.wrap (x3 + (1 : Int))) x4 (x5 ++ (((rdEl THost x1 (Int.toNat x3))).1 :: ([] : List Int))) x6)) (
          changeR.l2  m x0 x1 x2 (IntKind.i64.wrap (x3 + (1 : Int))) x4 x5 x6)))))))) (
   some ((.tup [(.c (.sl (.int .i64) x4)), (.c (.sl (.int .i64) x5)), (.c (.sl (.int .i64) x6)), (.c (.v (.int .i64 (0 : Int))))]), [])) := by kernel_rfl
theorem changeR.run_eq  (m : Nat) (x0 : (List (El THost))) (x1 : (List (El THost))) : run (changeR.cfg ) Try.f22.ntmps Try.f22.results.toList m [.code (bodyOf Try.f22)] (enterO (ivAO 0 changeR.ps (x0, x1, ())) (bxAO 0 changeR.ps (x0, x1, ()))) = changeR.go  m x0 x1 := by kernel_rfl
theorem changeR.ret  (hs : SpecsOK Try.prog (changeR.specs ))  (x0 : (List (El THost))) (x1 : (List (El THost))) {m : Nat} {r : IV} {b : List (Nat × Box)} (h : changeR.go  m x0 x1 = some (r, b)) : VE.ReturnsO Try.prog 22 (ivAO 0 changeR.ps (x0, x1, ())) (bxAO 0 changeR.ps (x0, x1, ())) r b :=
  returnsO_of_run (cfg := changeR.cfg ) (cfgOK_of mixed tab_ok hs .nil) rfl Try.func22 (body_some (by kernel_rfl)) (Nat.le_of_ble_eq_true (by kernel_rfl)) (fun _ _ _ h => oids_mem h) ((changeR.run_eq  m x0 x1).trans h)
abbrev changeR.Law : Prop := ∀ (x0 : (List (El THost))) (x1 : (List (El THost))), changeR.pre (x0, x1, ()) = true → VE.ReturnsO Try.prog 22 (ivAO 0 changeR.ps (x0, x1, ())) (bxAO 0 changeR.ps (x0, x1, ())) (changeR.res (x0, x1, ())) (changeR.back (x0, x1, ()))
theorem changeR.mkR (H : ∀ (x0 : (List (El THost))) (x1 : (List (El THost))), changeR.pre (x0, x1, ()) = true → VE.ReturnsO Try.prog 22 (ivAO 0 changeR.ps (x0, x1, ())) (bxAO 0 changeR.ps (x0, x1, ())) (changeR.res (x0, x1, ())) (changeR.back (x0, x1, ()))) : SpecOKO Try.prog 22 changeR.sp :=
  specO_ret Try.func22 (by kernel_rfl) (by kernel_rfl) fun (x : (List (El THost)) × (List (El THost)) × Unit) hx => H (x.1) (x.2.1) hx
theorem changeR.mk  (hs : SpecsOK Try.prog (changeR.specs ))  (H : ∀ (x0 : (List (El THost))) (x1 : (List (El THost))), changeR.pre (x0, x1, ()) = true → ∃ m, changeR.go  m x0 x1 = some (changeR.res (x0, x1, ()), changeR.back (x0, x1, ()))) : SpecOKO Try.prog 22 changeR.sp :=
  changeR.mkR fun x0 x1 hx => (H x0 x1 hx).elim fun _ hm => changeR.ret  hs  x0 x1 hm

/-! ### triage/triageref1.SameHosts -/
abbrev sameHR.ps : List AK := [.d false (.sl THost), .d false (.sl THost)]
def sameHR.pre : ElA sameHR.ps → Bool := fun (x : (List (El THost)) × (List (El THost)) × Unit) => fits (.sl THost) (x.1) && (fits (.sl THost) (x.2.1) && (true))
def sameHR.res : ElA sameHR.ps → IV := fun (x : (List (El THost)) × (List (El THost)) × Unit) => (fun l m => vb (sameHB l m)) x.1 x.2.1
def sameHR.sp : ISpec := spOf sameHR.ps sameHR.pre sameHR.res
abbrev sameHR.OK : Prop := SpecOK Try.prog 16 sameHR.sp
noncomputable def sameHR.body : Code := bodyOf Try.f16
noncomputable def sameHR.rs : List ResultVar := Try.f16.results.toList
def sameHR.live : List (Nat × Live) := [(4, ⟨[(0, .sl THost), (1, .sl THost), (12, .plain), (13, .plain)], []⟩)]
noncomputable def sameHR.specs  : List (Nat × (List Bool × ISpec)) := [(24, ([], sameR.sp))]
noncomputable def sameHR.ospecs  : List (Nat × OS) := []
noncomputable def sameHR.cfg  : Cfg := ⟨lkp tab, lkp (sameHR.specs ), lkp sameHR.live, ⟨lkp (sameHR.ospecs ), [], none, false, []⟩⟩
noncomputable def sameHR.l1  (m : Nat) (x0 : List (El THost)) (x1 : List (El THost)) (x2 : Int) (x3 : Int) : R := run (sameHR.cfg ) 27 sameHR.rs m ((todoR 4 sameHR.body []).getD []) ⟨ofList (.c .junk) [(0, (.c (.sl THost x0))), (1, (.c (.sl THost x1))), (12, (.c (.v (.int .i64 x2)))), (13, (.c (.v (.int .i64 x3))))], ofList none [], ofList false []⟩
noncomputable def sameHR.go  (m : Nat) (x0 : (List (El THost))) (x1 : (List (El THost))) : R := run (sameHR.cfg ) 27 sameHR.rs m [.code sameHR.body] (enter (ivA sameHR.ps (x0, x1, ())))
theorem sameHR.start  (m : Nat) (x0 : (List (El THost))) (x1 : (List (El THost))) : sameHR.go  (m + 1) x0 x1 =
  cond (bne ((List.length x0) : Int) ((List.length x1) : Int)) (
   some ((.c (.v (.bool false))), [])) (
   sameHR.l1  m x0 x1 ((List.length x0) : Int) (0 : Int)) := by kernel_rfl
theorem sameHR.s1  (m : Nat) (x0 : List (El THost)) (x1 : List (El THost)) (x2 : Int) (x3 : Int) : sameHR.l1  (m + 1) x0 x1 x2 x3 =
  cond (decide (x3 < x2)) (
   test (decide ((0 : Int) ≤ x3)) (
    test (decide (x3 < ((List.length x0) : Int))) (
     test (decide ((0 : Int) ≤ x3)) (
      test (decide (x3 < ((List.length x1) : Int))) (
       test (sameR.pre (((rdEl THost x0 (Int.toNat x3))), (((rdEl THost x1 (Int.toNat x3))), Unit.unit))) (
        cond (Bool.not (sameB ((rdEl THost x0 (Int.toNat x3))) ((rdEl THost x1 (Int.toNat x3))))) (
         some ((.c (.v (.bool false))), [])) (
         sameHR.l1  m x0 x1 x2 (IntKind.i64.wrap (x3 + (1 : Int)))))))))) (
   some ((.c (.v (.bool true))), [])) := by kernel_rfl
theorem sameHR.run_eq  (m : Nat) (x0 : (List (El THost))) (x1 : (List (El THost))) : run (sameHR.cfg ) Try.f16.ntmps Try.f16.results.toList m [.code (bodyOf Try.f16)] (enter (ivA sameHR.ps (x0, x1, ()))) = sameHR.go  m x0 x1 := by kernel_rfl
theorem sameHR.ret  (hs : SpecsOK Try.prog (sameHR.specs ))  (x0 : (List (El THost))) (x1 : (List (El THost))) {m : Nat} {r : IV} (h : sameHR.go  m x0 x1 = some (r, [])) : VE.Returns Try.prog 16 (ivA sameHR.ps (x0, x1, ())) r :=
  returns_of_run (cfg := sameHR.cfg ) (cfgOK_of mixed tab_ok hs .nil) rfl Try.func16 (body_some (by kernel_rfl)) (Nat.le_of_ble_eq_true (by kernel_rfl)) ((sameHR.run_eq  m x0 x1).trans h)
abbrev sameHR.Law : Prop := ∀ (x0 : (List (El THost))) (x1 : (List (El THost))), sameHR.pre (x0, x1, ()) = true → VE.Returns Try.prog 16 (ivA sameHR.ps (x0, x1, ())) (sameHR.res (x0, x1, ()))
theorem sameHR.mkR (H : ∀ (x0 : (List (El THost))) (x1 : (List (El THost))), sameHR.pre (x0, x1, ()) = true → VE.Returns Try.prog 16 (ivA sameHR.ps (x0, x1, ())) (sameHR.res (x0, x1, ()))) : SpecOK Try.prog 16 sameHR.sp :=
  specOf_ret Try.func16 (by kernel_rfl) (by kernel_rfl) fun (x : (List (El THost)) × (List (El THost)) × Unit) hx => H (x.1) (x.2.1) hx
theorem sameHR.mk  (hs : SpecsOK Try.prog (sameHR.specs ))  (H : ∀ (x0 : (List (El THost))) (x1 : (List (El THost))), sameHR.pre (x0, x1, ()) = true → ∃ m, sameHR.go  m x0 x1 = some (sameHR.res (x0, x1, ()), [])) : SpecOK Try.prog 16 sameHR.sp :=
  sameHR.mkR fun x0 x1 hx => (H x0 x1 hx).elim fun _ hm => sameHR.ret  hs  x0 x1 hm

/-! ### triage/triageref1.Ints -/
abbrev ints.ps : List AK := [.d false (.sl (.int .i64)), .d false (.sl (.int .i64))]
def ints.pre : ElA ints.ps → Bool := fun (x : (List Int) × (List Int) × Unit) => fits (.sl (.int .i64)) (x.1) && (fits (.sl (.int .i64)) (x.2.1) && (true))
def ints.res : ElA ints.ps → IV := fun (x : (List Int) × (List Int) × Unit) => (fun l m => vb (eqIs l m)) x.1 x.2.1
def ints.sp : ISpec := spOf ints.ps ints.pre ints.res
abbrev ints.OK : Prop := SpecOK Try.prog 12 ints.sp
noncomputable def ints.body : Code := bodyOf Try.f12
noncomputable def ints.rs : List ResultVar := Try.f12.results.toList
def ints.live : List (Nat × Live) := [(4, ⟨[(0, .sl (.int .i64)), (1, .sl (.int .i64)), (12, .plain), (13, .plain)], []⟩)]
noncomputable def ints.specs  : List (Nat × (List Bool × ISpec)) := []
noncomputable def ints.ospecs  : List (Nat × OS) := []
noncomputable def ints.cfg  : Cfg := ⟨lkp tab, lkp (ints.specs ), lkp ints.live, ⟨lkp (ints.ospecs ), [], none, false, []⟩⟩
noncomputable def ints.l1  (m : Nat) (x0 : List Int) (x1 : List Int) (x2 : Int) (x3 : Int) : R := run (ints.cfg ) 26 ints.rs m ((todoR 4 ints.body []).getD []) ⟨ofList (.c .junk) [(0, (.c (.sl (.int .i64) x0))), (1, (.c (.sl (.int .i64) x1))), (12, (.c (.v (.int .i64 x2)))), (13, (.c (.v (.int .i64 x3))))], ofList none [], ofList false []⟩
noncomputable def ints.go  (m : Nat) (x0 : (List Int)) (x1 : (List Int)) : R := run (ints.cfg ) 26 ints.rs m [.code ints.body] (enter (ivA ints.ps (x0, x1, ())))
theorem ints.start  (m : Nat) (x0 : (List Int)) (x1 : (List Int)) : ints.go  (m + 1) x0 x1 =
  cond (bne ((List.length x0) : Int) ((List.length x1) : Int)) (
   some ((.c (.v (.bool false))), [])) (
   ints.l1  m x0 x1 ((List.length x0) : Int) (0 : Int)) := by kernel_rfl
theorem ints.s1  (m : Nat) (x0 : List Int) (x1 : List Int) (x2 : Int) (x3 : Int) : ints.l1  (m + 1) x0 x1 x2 x3 =
  cond (decide (x3 < x2)) (
   test (decide ((0 : Int) ≤ x3)) (
    test (decide (x3 < ((List.length x0) : Int))) (
     test (decide ((0 : Int) ≤ x3)) (
      test (decide (x3 < ((List.length x1) : Int))) (
       cond (bne (rdEl (.int .i64) x0 (Int.toNat x3)) (rdEl (.int .i64) x1 (Int.toNat x3))) (
        some ((.c (.v (.bool false))), [])) (
        ints.l1  m x0 x1 x2 (IntKind.i64.wrap (x3 + (1 : Int))))))))) (
   some ((.c (.v (.bool true))), [])) := by kernel_rfl
theorem ints.run_eq  (m : Nat) (x0 : (List Int)) (x1 : (List Int)) : run (ints.cfg ) Try.f12.ntmps Try.f12.results.toList m [.code (bodyOf Try.f12)] (enter (ivA ints.ps (x0, x1, ()))) = ints.go  m x0 x1 := by kernel_rfl
theorem ints.ret  (hs : SpecsOK Try.prog (ints.specs ))  (x0 : (List Int)) (x1 : (List Int)) {m : Nat} {r : IV} (h : ints.go  m x0 x1 = some (r, [])) : VE.Returns Try.prog 12 (ivA ints.ps (x0, x1, ())) r :=
  returns_of_run (cfg := ints.cfg ) (cfgOK_of mixed tab_ok hs .nil) rfl Try.func12 (body_some (by kernel_rfl)) (Nat.le_of_ble_eq_true (by kernel_rfl)) ((ints.run_eq  m x0 x1).trans h)
abbrev ints.Law : Prop := ∀ (x0 : (List Int)) (x1 : (List Int)), ints.pre (x0, x1, ()) = true → VE.Returns Try.prog 12 (ivA ints.ps (x0, x1, ())) (ints.res (x0, x1, ()))
theorem ints.mkR (H : ∀ (x0 : (List Int)) (x1 : (List Int)), ints.pre (x0, x1, ()) = true → VE.Returns Try.prog 12 (ivA ints.ps (x0, x1, ())) (ints.res (x0, x1, ()))) : SpecOK Try.prog 12 ints.sp :=
  specOf_ret Try.func12 (by kernel_rfl) (by kernel_rfl) fun (x : (List Int) × (List Int) × Unit) hx => H (x.1) (x.2.1) hx
theorem ints.mk  (hs : SpecsOK Try.prog (ints.specs ))  (H : ∀ (x0 : (List Int)) (x1 : (List Int)), ints.pre (x0, x1, ()) = true → ∃ m, ints.go  m x0 x1 = some (ints.res (x0, x1, ()), [])) : SpecOK Try.prog 12 ints.sp :=
  ints.mkR fun x0 x1 hx => (H x0 x1 hx).elim fun _ hm => ints.ret  hs  x0 x1 hm

/-! ### triage/triagelaw8.Light -/
abbrev lightT.ps : List AK := [.d false (.sl THost)]
def lightT.pre : ElA lightT.ps → Bool := fun (x : (List (El THost)) × Unit) => fits (.sl THost) (x.1) && (true)
def lightT.res : ElA lightT.ps → IV := fun (x : (List (El THost)) × Unit) => (fun l => vi .i64 (lightTI l)) x.1
def lightT.sp : ISpec := spOf lightT.ps lightT.pre lightT.res
abbrev lightT.OK : Prop := SpecOK Try.prog 8 lightT.sp
noncomputable def lightT.body : Code := bodyOf Try.f8
noncomputable def lightT.rs : List ResultVar := Try.f8.results.toList
def lightT.live : List (Nat × Live) := [(2, ⟨[(5, .sl THost), (6, .plain), (7, .plain)], []⟩)]
noncomputable def lightT.specs  : List (Nat × (List Bool × ISpec)) := [(18, ([], light.sp))]
noncomputable def lightT.ospecs  : List (Nat × OS) := []
noncomputable def lightT.cfg  : Cfg := ⟨lkp tab, lkp (lightT.specs ), lkp lightT.live, ⟨lkp (lightT.ospecs ), [], none, false, []⟩⟩
noncomputable def lightT.l1  (m : Nat) (x0 : List (El THost)) (x1 : Int) (x2 : Int) : R := run (lightT.cfg ) 20 lightT.rs m ((todoR 2 lightT.body []).getD []) ⟨ofList (.c .junk) [(5, (.c (.sl THost x0))), (6, (.c (.v (.int .i64 x1)))), (7, (.c (.v (.int .i64 x2))))], ofList none [], ofList false []⟩
noncomputable def lightT.go  (m : Nat) (x0 : (List (El THost))) : R := run (lightT.cfg ) 20 lightT.rs m [.code lightT.body] (enter (ivA lightT.ps (x0, ())))
theorem lightT.start  (m : Nat) (x0 : (List (El THost))) : lightT.go  (m + 1) x0 =
  lightT.l1  m x0 ((List.length x0) : Int) (0 : Int) := by kernel_rfl
theorem lightT.s1  (m : Nat) (x0 : List (El THost)) (x1 : Int) (x2 : Int) : lightT.l1  (m + 1) x0 x1 x2 =
  cond (decide (x2 < x1)) (
   test (decide ((0 : Int) ≤ x2)) (
    test (decide (x2 < ((List.length x0) : Int))) (
     cond (decide (x2 > (80 : Int))) (
      some ((.c (.v (.int .i64 (1 : Int)))), [])) (
      test (light.pre (((rdEl THost x0 (Int.toNat x2))), Unit.unit)) (
       cond (decide ((lightI ((rdEl THost x0 (Int.toNat x2)))) > (0 : Int))) (
        some ((.c (.v (.int .i64 (1 : Int)))), [])) (
        lightT.l1  m x0 x1 (IntKind.i64.wrap (x2 + (1 : Int))))))))) (
   some ((.c (.v (.int .i64 (0 : Int)))), [])) := by kernel_rfl
theorem lightT.run_eq  (m : Nat) (x0 : (List (El THost))) : run (lightT.cfg ) Try.f8.ntmps Try.f8.results.toList m [.code (bodyOf Try.f8)] (enter (ivA lightT.ps (x0, ()))) = lightT.go  m x0 := by kernel_rfl
theorem lightT.ret  (hs : SpecsOK Try.prog (lightT.specs ))  (x0 : (List (El THost))) {m : Nat} {r : IV} (h : lightT.go  m x0 = some (r, [])) : VE.Returns Try.prog 8 (ivA lightT.ps (x0, ())) r :=
  returns_of_run (cfg := lightT.cfg ) (cfgOK_of mixed tab_ok hs .nil) rfl Try.func8 (body_some (by kernel_rfl)) (Nat.le_of_ble_eq_true (by kernel_rfl)) ((lightT.run_eq  m x0).trans h)
abbrev lightT.Law : Prop := ∀ (x0 : (List (El THost))), lightT.pre (x0, ()) = true → VE.Returns Try.prog 8 (ivA lightT.ps (x0, ())) (lightT.res (x0, ()))
theorem lightT.mkR (H : ∀ (x0 : (List (El THost))), lightT.pre (x0, ()) = true → VE.Returns Try.prog 8 (ivA lightT.ps (x0, ())) (lightT.res (x0, ()))) : SpecOK Try.prog 8 lightT.sp :=
  specOf_ret Try.func8 (by kernel_rfl) (by kernel_rfl) fun (x : (List (El THost)) × Unit) hx => H (x.1) hx
theorem lightT.mk  (hs : SpecsOK Try.prog (lightT.specs ))  (H : ∀ (x0 : (List (El THost))), lightT.pre (x0, ()) = true → ∃ m, lightT.go  m x0 = some (lightT.res (x0, ()), [])) : SpecOK Try.prog 8 lightT.sp :=
  lightT.mkR fun x0 hx => (H x0 hx).elim fun _ hm => lightT.ret  hs  x0 hm

/-! ### triage/triagelaw8.awake -/
abbrev awake.ps : List AK := []
def awake.pre : ElA awake.ps → Bool := fun (x : Unit) => true
def awake.res : ElA awake.ps → IV := fun (x : Unit) => (vb true) 
def awake.sp : ISpec := spOf awake.ps awake.pre awake.res
abbrev awake.OK : Prop := SpecOK Try.prog 10 awake.sp
noncomputable def awake.body : Code := bodyOf Try.f10
noncomputable def awake.rs : List ResultVar := Try.f10.results.toList
def awake.live : List (Nat × Live) := []
noncomputable def awake.specs  : List (Nat × (List Bool × ISpec)) := [(17, ([], mayT.sp)), (23, ([], find.sp))]
noncomputable def awake.ospecs  : List (Nat × OS) := [(15, ⟨[], [], add.sp⟩), (11, ⟨[], [], change.sp⟩)]
noncomputable def awake.cfg  : Cfg := ⟨lkp tab, lkp (awake.specs ), lkp awake.live, ⟨lkp (awake.ospecs ), [], none, false, []⟩⟩
noncomputable def awake.go  (m : Nat)  : R := run (awake.cfg ) 82 awake.rs m [.code awake.body] (enter (ivA awake.ps ()))
theorem awake.start  (m : Nat)  : awake.go  (m + 1)  =
  some ((.c (.v (.bool ((ixOf (idH (2 : Int)) (addL (((2 : Int), ((⟨#[98]⟩ : ByteArray), ((0 : Int), ((⟨#[]⟩ : ByteArray), ((1 : Int), ([] : List (El TPair))))))) :: ([] : List (El THost))) ((1 : Int), ((⟨#[97]⟩ : ByteArray), ((0 : Int), ((⟨#[]⟩ : ByteArray), ((1 : Int), ([] : List (El TPair))))))))) == (1 : Int))))), []) := by kernel_rfl
theorem awake.run_eq  (m : Nat)  : run (awake.cfg ) Try.f10.ntmps Try.f10.results.toList m [.code (bodyOf Try.f10)] (enter (ivA awake.ps ())) = awake.go  m  := by kernel_rfl
theorem awake.ret  (hs : SpecsOK Try.prog (awake.specs )) (ho : OSpecsOK Try.prog (awake.ospecs ))  {m : Nat} {r : IV} (h : awake.go  m  = some (r, [])) : VE.Returns Try.prog 10 (ivA awake.ps ()) r :=
  returns_of_run (cfg := awake.cfg ) (cfgOK_of mixed tab_ok hs ho) rfl Try.func10 (body_some (by kernel_rfl)) (Nat.le_of_ble_eq_true (by kernel_rfl)) ((awake.run_eq  m ).trans h)
abbrev awake.Law : Prop := ∀ (_ : Unit), awake.pre () = true → VE.Returns Try.prog 10 (ivA awake.ps ()) (awake.res ())
theorem awake.mkR (H : ∀ (_ : Unit), awake.pre () = true → VE.Returns Try.prog 10 (ivA awake.ps ()) (awake.res ())) : SpecOK Try.prog 10 awake.sp :=
  specOf_ret Try.func10 (by kernel_rfl) (by kernel_rfl) fun (x : Unit) hx => H () hx
theorem awake.mk  (hs : SpecsOK Try.prog (awake.specs )) (ho : OSpecsOK Try.prog (awake.ospecs )) (H : ∀ (_ : Unit), awake.pre () = true → ∃ m, awake.go  m  = some (awake.res (), [])) : SpecOK Try.prog 10 awake.sp :=
  awake.mkR fun _ hx => (H () hx).elim fun _ hm => awake.ret  hs ho  hm

end Go.Proofs.Ytlbdljebmjajdaa
