/-
  Steps of the bodies, from checkpoint to checkpoint (printed by wip/VE/mk2.py).
-/
import Derived.Test.YtdoilggfajngiaaT
import Derived.Test.YtdoilggfajngiaaHA
namespace Go.Proofs.Ytdoilggfajngiaa
open Go VE

/-! ### triage/host.word -/
abbrev word.ps : List AK := [.d false .str]
def word.pre : ElA word.ps → Bool := fun (x : ByteArray × Unit) => fits .str (x.1) && (true)
def word.res : ElA word.ps → IV := fun (x : ByteArray × Unit) => (fun s => vb (wordB s)) x.1
def word.sp : ISpec := spOf word.ps word.pre word.res
abbrev word.OK : Prop := SpecOK Try.prog 55 word.sp
noncomputable def word.body : Code := bodyOf Try.f55
noncomputable def word.rs : List ResultVar := Try.f55.results.toList
def word.live : List (Nat × Live) := [(2, ⟨[(0, .plain), (6, .plain), (7, .plain)], []⟩)]
noncomputable def word.specs  : List (Nat × (List Bool × ISpec)) := []
noncomputable def word.ospecs  : List (Nat × OS) := []
noncomputable def word.cfg  : Cfg := ⟨lkp tab, lkp (word.specs ), lkp word.live, ⟨lkp (word.ospecs ), [], none, false, []⟩⟩
noncomputable def word.l1  (m : Nat) (x0 : ByteArray) (x1 : Int) (x2 : Int) : R := run (word.cfg ) 48 word.rs m ((todoR 2 word.body []).getD []) ⟨ofList (.c .junk) [(0, (.c (.v (.string x0)))), (6, (.c (.v (.int .i64 x1)))), (7, (.c (.v (.int .i64 x2))))], ofList none [], ofList false []⟩
noncomputable def word.go  (m : Nat) (x0 : ByteArray) : R := run (word.cfg ) 48 word.rs m [.code word.body] (enter (ivA word.ps (x0, ())))
theorem word.start  (m : Nat) (x0 : ByteArray) : word.go  (m + 1) x0 =
  word.l1  m x0 ((ByteArray.size x0) : Int) (0 : Int) := by kernel_rfl
theorem word.s1  (m : Nat) (x0 : ByteArray) (x1 : Int) (x2 : Int) : word.l1  (m + 1) x0 x1 x2 =
  cond (decide (x2 < x1)) (
   test (decide ((0 : Int) ≤ x2)) (
    test (decide (x2 < ((ByteArray.size x0) : Int))) (
     cond (decide ((byteAt x0 x2) < (97 : Int))) (
      cond (decide ((byteAt x0 x2) < (48 : Int))) (
       cond (bne (byteAt x0 x2) (45 : Int)) (
        cond (bne (byteAt x0 x2) (46 : Int)) (
         some ((.c (.v (.bool false))), [])) (
         word.l1  m x0 x1 (IntKind.i64.wrap (x2 + (1 : Int))))) (
        word.l1  m x0 x1 (IntKind.i64.wrap (x2 + (1 : Int))))) (
       cond (decide ((byteAt x0 x2) > (57 : Int))) (
        cond (bne (byteAt x0 x2) (45 : Int)) (
         cond (bne (byteAt x0 x2) (46 : Int)) (
          some ((.c (.v (.bool false))), [])) (
          word.l1  m x0 x1 (IntKind.i64.wrap (x2 + (1 : Int))))) (
         word.l1  m x0 x1 (IntKind.i64.wrap (x2 + (1 : Int))))) (
        word.l1  m x0 x1 (IntKind.i64.wrap (x2 + (1 : Int)))))) (
      cond (decide ((byteAt x0 x2) > (122 : Int))) (
       cond (decide ((byteAt x0 x2) < (48 : Int))) (
        cond (bne (byteAt x0 x2) (45 : Int)) (
         cond (bne (byteAt x0 x2) (46 : Int)) (
          some ((.c (.v (.bool false))), [])) (
          word.l1  m x0 x1 (IntKind.i64.wrap (x2 + (1 : Int))))) (
         word.l1  m x0 x1 (IntKind.i64.wrap (x2 + (1 : Int))))) (
        cond (decide ((byteAt x0 x2) > (57 : Int))) (
         cond (bne (byteAt x0 x2) (45 : Int)) (
          cond (bne (byteAt x0 x2) (46 : Int)) (
           some ((.c (.v (.bool false))), [])) (
           word.l1  m x0 x1 (IntKind.i64.wrap (x2 + (1 : Int))))) (
          word.l1  m x0 x1 (IntKind.i64.wrap (x2 + (1 : Int))))) (
         word.l1  m x0 x1 (IntKind.i64.wrap (x2 + (1 : Int)))))) (
       word.l1  m x0 x1 (IntKind.i64.wrap (x2 + (1 : Int)))))))) (
   cond (decide (((ByteArray.size x0) : Int) ≥ (1 : Int))) (
    cond (decide (((ByteArray.size x0) : Int) ≤ (12 : Int))) (
     some ((.c (.v (.bool (Bool.not ((ByteArray.toList x0) == (ByteArray.toList (⟨#[45]⟩ : ByteArray))))))), [])) (
     some ((.c (.v (.bool false))), []))) (
    some ((.c (.v (.bool false))), []))) := by kernel_rfl
theorem word.run_eq  (m : Nat) (x0 : ByteArray) : run (word.cfg ) Try.f55.ntmps Try.f55.results.toList m [.code (bodyOf Try.f55)] (enter (ivA word.ps (x0, ()))) = word.go  m x0 := by kernel_rfl
theorem word.ret  (hs : SpecsOK Try.prog (word.specs ))  (x0 : ByteArray) {m : Nat} {r : IV} (h : word.go  m x0 = some (r, [])) : VE.Returns Try.prog 55 (ivA word.ps (x0, ())) r :=
  returns_of_run (cfg := word.cfg ) (cfgOK_of mixed tab_ok hs .nil) rfl Try.func55 (body_some (by kernel_rfl)) (Nat.le_of_ble_eq_true (by kernel_rfl)) ((word.run_eq  m x0).trans h)
abbrev word.Law : Prop := ∀ (x0 : ByteArray), word.pre (x0, ()) = true → VE.Returns Try.prog 55 (ivA word.ps (x0, ())) (word.res (x0, ()))
theorem word.mkR (H : ∀ (x0 : ByteArray), word.pre (x0, ()) = true → VE.Returns Try.prog 55 (ivA word.ps (x0, ())) (word.res (x0, ()))) : SpecOK Try.prog 55 word.sp :=
  specOf_ret Try.func55 (by kernel_rfl) (by kernel_rfl) fun (x : ByteArray × Unit) hx => H (x.1) hx
theorem word.mk  (hs : SpecsOK Try.prog (word.specs ))  (H : ∀ (x0 : ByteArray), word.pre (x0, ()) = true → ∃ m, word.go  m x0 = some (word.res (x0, ()), [])) : SpecOK Try.prog 55 word.sp :=
  word.mkR fun x0 hx => (H x0 hx).elim fun _ hm => word.ret  hs  x0 hm

/-! ### triage/triageref1.Word -/
abbrev wordR.ps : List AK := [.d false .str]
def wordR.pre : ElA wordR.ps → Bool := fun (x : ByteArray × Unit) => fits .str (x.1) && (true)
def wordR.res : ElA wordR.ps → IV := fun (x : ByteArray × Unit) => (fun s => vb (wordB s)) x.1
def wordR.sp : ISpec := spOf wordR.ps wordR.pre wordR.res
abbrev wordR.OK : Prop := SpecOK Try.prog 38 wordR.sp
noncomputable def wordR.body : Code := bodyOf Try.f38
noncomputable def wordR.rs : List ResultVar := Try.f38.results.toList
def wordR.live : List (Nat × Live) := [(4, ⟨[(0, .plain), (18, .plain), (19, .plain)], []⟩)]
noncomputable def wordR.specs  : List (Nat × (List Bool × ISpec)) := []
noncomputable def wordR.ospecs  : List (Nat × OS) := []
noncomputable def wordR.cfg  : Cfg := ⟨lkp tab, lkp (wordR.specs ), lkp wordR.live, ⟨lkp (wordR.ospecs ), [], none, false, []⟩⟩
noncomputable def wordR.l1  (m : Nat) (x0 : ByteArray) (x1 : Int) (x2 : Int) : R := run (wordR.cfg ) 48 wordR.rs m ((todoR 4 wordR.body []).getD []) ⟨ofList (.c .junk) [(0, (.c (.v (.string x0)))), (18, (.c (.v (.int .i64 x1)))), (19, (.c (.v (.int .i64 x2))))], ofList none [], ofList false []⟩
noncomputable def wordR.go  (m : Nat) (x0 : ByteArray) : R := run (wordR.cfg ) 48 wordR.rs m [.code wordR.body] (enter (ivA wordR.ps (x0, ())))
theorem wordR.start  (m : Nat) (x0 : ByteArray) : wordR.go  (m + 1) x0 =
  cond (decide (((ByteArray.size x0) : Int) < (1 : Int))) (
   some ((.c (.v (.bool false))), [])) (
   cond (decide (((ByteArray.size x0) : Int) > (12 : Int))) (
    some ((.c (.v (.bool false))), [])) (
    cond ((ByteArray.toList x0) == (ByteArray.toList (⟨#[45]⟩ : ByteArray))) (
     some ((.c (.v (.bool false))), [])) (
     wordR.l1  m x0 ((ByteArray.size x0) : Int) (0 : Int)))) := by kernel_rfl
theorem wordR.s1  (m : Nat) (x0 : ByteArray) (x1 : Int) (x2 : Int) : wordR.l1  (m + 1) x0 x1 x2 =
  cond (decide (x2 < x1)) (
   test (decide ((0 : Int) ≤ x2)) (
    test (decide (x2 < ((ByteArray.size x0) : Int))) (
     cond (decide ((byteAt x0 x2) < (97 : Int))) (
      cond (decide ((byteAt x0 x2) < (48 : Int))) (
       cond (bne (byteAt x0 x2) (45 : Int)) (
        cond (bne (byteAt x0 x2) (46 : Int)) (
         some ((.c (.v (.bool false))), [])) (
         wordR.l1  m x0 x1 (IntKind.i64.wrap (x2 + (1 : Int))))) (
        wordR.l1  m x0 x1 (IntKind.i64.wrap (x2 + (1 : Int))))) (
       cond (decide ((byteAt x0 x2) > (57 : Int))) (
        cond (bne (byteAt x0 x2) (45 : Int)) (
         cond (bne (byteAt x0 x2) (46 : Int)) (
          some ((.c (.v (.bool false))), [])) (
          wordR.l1  m x0 x1 (IntKind.i64.wrap (x2 + (1 : Int))))) (
         wordR.l1  m x0 x1 (IntKind.i64.wrap (x2 + (1 : Int))))) (
        wordR.l1  m x0 x1 (IntKind.i64.wrap (x2 + (1 : Int)))))) (
      cond (decide ((byteAt x0 x2) > (122 : Int))) (
       cond (decide ((byteAt x0 x2) < (48 : Int))) (
        cond (bne (byteAt x0 x2) (45 : Int)) (
         cond (bne (byteAt x0 x2) (46 : Int)) (
          some ((.c (.v (.bool false))), [])) (
          wordR.l1  m x0 x1 (IntKind.i64.wrap (x2 + (1 : Int))))) (
         wordR.l1  m x0 x1 (IntKind.i64.wrap (x2 + (1 : Int))))) (
        cond (decide ((byteAt x0 x2) > (57 : Int))) (
         cond (bne (byteAt x0 x2) (45 : Int)) (
          cond (bne (byteAt x0 x2) (46 : Int)) (
           some ((.c (.v (.bool false))), [])) (
           wordR.l1  m x0 x1 (IntKind.i64.wrap (x2 + (1 : Int))))) (
          wordR.l1  m x0 x1 (IntKind.i64.wrap (x2 + (1 : Int))))) (
         wordR.l1  m x0 x1 (IntKind.i64.wrap (x2 + (1 : Int)))))) (
       wordR.l1  m x0 x1 (IntKind.i64.wrap (x2 + (1 : Int)))))))) (
   some ((.c (.v (.bool true))), [])) := by kernel_rfl
theorem wordR.run_eq  (m : Nat) (x0 : ByteArray) : run (wordR.cfg ) Try.f38.ntmps Try.f38.results.toList m [.code (bodyOf Try.f38)] (enter (ivA wordR.ps (x0, ()))) = wordR.go  m x0 := by kernel_rfl
theorem wordR.ret  (hs : SpecsOK Try.prog (wordR.specs ))  (x0 : ByteArray) {m : Nat} {r : IV} (h : wordR.go  m x0 = some (r, [])) : VE.Returns Try.prog 38 (ivA wordR.ps (x0, ())) r :=
  returns_of_run (cfg := wordR.cfg ) (cfgOK_of mixed tab_ok hs .nil) rfl Try.func38 (body_some (by kernel_rfl)) (Nat.le_of_ble_eq_true (by kernel_rfl)) ((wordR.run_eq  m x0).trans h)
abbrev wordR.Law : Prop := ∀ (x0 : ByteArray), wordR.pre (x0, ()) = true → VE.Returns Try.prog 38 (ivA wordR.ps (x0, ())) (wordR.res (x0, ()))
theorem wordR.mkR (H : ∀ (x0 : ByteArray), wordR.pre (x0, ()) = true → VE.Returns Try.prog 38 (ivA wordR.ps (x0, ())) (wordR.res (x0, ()))) : SpecOK Try.prog 38 wordR.sp :=
  specOf_ret Try.func38 (by kernel_rfl) (by kernel_rfl) fun (x : ByteArray × Unit) hx => H (x.1) hx
theorem wordR.mk  (hs : SpecsOK Try.prog (wordR.specs ))  (H : ∀ (x0 : ByteArray), wordR.pre (x0, ()) = true → ∃ m, wordR.go  m x0 = some (wordR.res (x0, ()), [])) : SpecOK Try.prog 38 wordR.sp :=
  wordR.mkR fun x0 hx => (H x0 hx).elim fun _ hm => wordR.ret  hs  x0 hm

/-! ### triage/host.notWords -/
abbrev notWords.ps : List AK := [.d true TPair]
def notWords.pre : ElA notWords.ps → Bool := fun (x : (El TPair) × Unit) => fits TPair (x.1) && (true)
def notWords.res : ElA notWords.ps → IV := fun (x : (El TPair) × Unit) => (fun p => vb (nwB p)) x.1
def notWords.sp : ISpec := spOf notWords.ps notWords.pre notWords.res
abbrev notWords.OK : Prop := SpecOK Try.prog 59 notWords.sp
noncomputable def notWords.body : Code := bodyOf Try.f59
noncomputable def notWords.rs : List ResultVar := Try.f59.results.toList
def notWords.live : List (Nat × Live) := []
noncomputable def notWords.specs  : List (Nat × (List Bool × ISpec)) := [(55, ([], word.sp))]
noncomputable def notWords.ospecs  : List (Nat × OS) := []
noncomputable def notWords.cfg  : Cfg := ⟨lkp tab, lkp (notWords.specs ), lkp notWords.live, ⟨lkp (notWords.ospecs ), [], none, false, []⟩⟩
noncomputable def notWords.go  (m : Nat) (x0 : (El TPair)) : R := run (notWords.cfg ) 13 notWords.rs m [.code notWords.body] (enter (ivA notWords.ps (x0, ())))
theorem notWords.start  (m : Nat) (x0 : (El TPair)) : notWords.go  (m + 1) x0 =
  test (word.pre (x0.1, Unit.unit)) (
   cond (Bool.not (wordB x0.1)) (
    some ((.c (.v (.bool true))), [])) (
    test (word.pre (x0.2, Unit.unit)) (
     some ((.c (.v (.bool (Bool.not (wordB x0.2))))), [])))) := by kernel_rfl
theorem notWords.run_eq  (m : Nat) (x0 : (El TPair)) : run (notWords.cfg ) Try.f59.ntmps Try.f59.results.toList m [.code (bodyOf Try.f59)] (enter (ivA notWords.ps (x0, ()))) = notWords.go  m x0 := by kernel_rfl
theorem notWords.ret  (hs : SpecsOK Try.prog (notWords.specs ))  (x0 : (El TPair)) {m : Nat} {r : IV} (h : notWords.go  m x0 = some (r, [])) : VE.Returns Try.prog 59 (ivA notWords.ps (x0, ())) r :=
  returns_of_run (cfg := notWords.cfg ) (cfgOK_of mixed tab_ok hs .nil) rfl Try.func59 (body_some (by kernel_rfl)) (Nat.le_of_ble_eq_true (by kernel_rfl)) ((notWords.run_eq  m x0).trans h)
abbrev notWords.Law : Prop := ∀ (x0 : (El TPair)), notWords.pre (x0, ()) = true → VE.Returns Try.prog 59 (ivA notWords.ps (x0, ())) (notWords.res (x0, ()))
theorem notWords.mkR (H : ∀ (x0 : (El TPair)), notWords.pre (x0, ()) = true → VE.Returns Try.prog 59 (ivA notWords.ps (x0, ())) (notWords.res (x0, ()))) : SpecOK Try.prog 59 notWords.sp :=
  specOf_ret Try.func59 (by kernel_rfl) (by kernel_rfl) fun (x : (El TPair) × Unit) hx => H (x.1) hx
theorem notWords.mk  (hs : SpecsOK Try.prog (notWords.specs ))  (H : ∀ (x0 : (El TPair)), notWords.pre (x0, ()) = true → ∃ m, notWords.go  m x0 = some (notWords.res (x0, ()), [])) : SpecOK Try.prog 59 notWords.sp :=
  notWords.mkR fun x0 hx => (H x0 hx).elim fun _ hm => notWords.ret  hs  x0 hm

/-! ### slices.IndexFunc(()triage/api.Pair,triage/api.Pair) -/
abbrev ixNW.ps : List AK := [.d false (.sl TPair), .f 59 []]
def ixNW.pre : ElA ixNW.ps → Bool := fun (x : (List (El TPair)) × Unit × Unit) => fits (.sl TPair) (x.1) && (true)
def ixNW.res : ElA ixNW.ps → IV := fun (x : (List (El TPair)) × Unit × Unit) => (fun l _ => vi .i64 (ixOf nwB l)) x.1 x.2.1
def ixNW.sp : ISpec := spOf ixNW.ps ixNW.pre ixNW.res
abbrev ixNW.OK : Prop := SpecOK Try.prog 60 ixNW.sp
noncomputable def ixNW.body : Code := bodyOf Try.f60
noncomputable def ixNW.rs : List ResultVar := Try.f60.results.toList
def ixNW.live : List (Nat × Live) := [(2, ⟨[(0, .sl TPair), (1, .plain), (7, .plain), (8, .plain)], []⟩)]
noncomputable def ixNW.specs  : List (Nat × (List Bool × ISpec)) := [(59, ([], notWords.sp))]
noncomputable def ixNW.ospecs  : List (Nat × OS) := []
noncomputable def ixNW.cfg  : Cfg := ⟨lkp tab, lkp (ixNW.specs ), lkp ixNW.live, ⟨lkp (ixNW.ospecs ), [], none, false, []⟩⟩
noncomputable def ixNW.l1  (m : Nat) (x0 : List (El TPair)) (x1 : Int) (x2 : Int) : R := run (ixNW.cfg ) 19 ixNW.rs m ((todoR 2 ixNW.body []).getD []) ⟨ofList (.c .junk) [(0, (.c (.sl TPair x0))), (1, (.c (.fn 59 []))), (7, (.c (.v (.int .i64 x1)))), (8, (.c (.v (.int .i64 x2))))], ofList none [], ofList false []⟩
noncomputable def ixNW.go  (m : Nat) (x0 : (List (El TPair))) (x1 : Unit) : R := run (ixNW.cfg ) 19 ixNW.rs m [.code ixNW.body] (enter (ivA ixNW.ps (x0, x1, ())))
theorem ixNW.start  (m : Nat) (x0 : (List (El TPair))) (x1 : Unit) : ixNW.go  (m + 1) x0 x1 =
  ixNW.l1  m x0 ((List.length x0) : Int) (0 : Int) := by kernel_rfl
theorem ixNW.s1  (m : Nat) (x0 : List (El TPair)) (x1 : Int) (x2 : Int) : ixNW.l1  (m + 1) x0 x1 x2 =
  cond (decide (x2 < x1)) (
   test (decide ((0 : Int) ≤ x2)) (
    test (decide (x2 < ((List.length x0) : Int))) (
     test (notWords.pre (((rdEl TPair x0 (Int.toNat x2))), Unit.unit)) (
      cond (nwB ((rdEl TPair x0 (Int.toNat x2)))) (
       some ((.c (.v (.int .i64 x2))), [])) (
       ixNW.l1  m x0 x1 (IntKind.i64.wrap (x2 + (1 : Int)))))))) (
   some ((.c (.v (.int .i64 (-(1 : Int))))), [])) := by kernel_rfl
theorem ixNW.run_eq  (m : Nat) (x0 : (List (El TPair))) (x1 : Unit) : run (ixNW.cfg ) Try.f60.ntmps Try.f60.results.toList m [.code (bodyOf Try.f60)] (enter (ivA ixNW.ps (x0, x1, ()))) = ixNW.go  m x0 x1 := by kernel_rfl
theorem ixNW.ret  (hs : SpecsOK Try.prog (ixNW.specs ))  (x0 : (List (El TPair))) (x1 : Unit) {m : Nat} {r : IV} (h : ixNW.go  m x0 x1 = some (r, [])) : VE.Returns Try.prog 60 (ivA ixNW.ps (x0, x1, ())) r :=
  returns_of_run (cfg := ixNW.cfg ) (cfgOK_of mixed tab_ok hs .nil) rfl Try.func60 (body_some (by kernel_rfl)) (Nat.le_of_ble_eq_true (by kernel_rfl)) ((ixNW.run_eq  m x0 x1).trans h)
abbrev ixNW.Law : Prop := ∀ (x0 : (List (El TPair))) (x1 : Unit), ixNW.pre (x0, x1, ()) = true → VE.Returns Try.prog 60 (ivA ixNW.ps (x0, x1, ())) (ixNW.res (x0, x1, ()))
theorem ixNW.mkR (H : ∀ (x0 : (List (El TPair))) (x1 : Unit), ixNW.pre (x0, x1, ()) = true → VE.Returns Try.prog 60 (ivA ixNW.ps (x0, x1, ())) (ixNW.res (x0, x1, ()))) : SpecOK Try.prog 60 ixNW.sp :=
  specOf_ret Try.func60 (by kernel_rfl) (by kernel_rfl) fun (x : (List (El TPair)) × Unit × Unit) hx => H (x.1) (x.2.1) hx
theorem ixNW.mk  (hs : SpecsOK Try.prog (ixNW.specs ))  (H : ∀ (x0 : (List (El TPair))) (x1 : Unit), ixNW.pre (x0, x1, ()) = true → ∃ m, ixNW.go  m x0 x1 = some (ixNW.res (x0, x1, ()), [])) : SpecOK Try.prog 60 ixNW.sp :=
  ixNW.mkR fun x0 x1 hx => (H x0 x1 hx).elim fun _ hm => ixNW.ret  hs  x0 x1 hm

/-! ### slices.ContainsFunc(()triage/api.Pair,triage/api.Pair) -/
abbrev cfNW.ps : List AK := [.d false (.sl TPair), .f 59 []]
def cfNW.pre : ElA cfNW.ps → Bool := fun (x : (List (El TPair)) × Unit × Unit) => fits (.sl TPair) (x.1) && (true)
def cfNW.res : ElA cfNW.ps → IV := fun (x : (List (El TPair)) × Unit × Unit) => (fun l _ => vb (List.any l nwB)) x.1 x.2.1
def cfNW.sp : ISpec := spOf cfNW.ps cfNW.pre cfNW.res
abbrev cfNW.OK : Prop := SpecOK Try.prog 58 cfNW.sp
noncomputable def cfNW.body : Code := bodyOf Try.f58
noncomputable def cfNW.rs : List ResultVar := Try.f58.results.toList
def cfNW.live : List (Nat × Live) := []
noncomputable def cfNW.specs  : List (Nat × (List Bool × ISpec)) := [(60, ([], ixNW.sp))]
noncomputable def cfNW.ospecs  : List (Nat × OS) := []
noncomputable def cfNW.cfg  : Cfg := ⟨lkp tab, lkp (cfNW.specs ), lkp cfNW.live, ⟨lkp (cfNW.ospecs ), [], none, false, []⟩⟩
noncomputable def cfNW.go  (m : Nat) (x0 : (List (El TPair))) (x1 : Unit) : R := run (cfNW.cfg ) 9 cfNW.rs m [.code cfNW.body] (enter (ivA cfNW.ps (x0, x1, ())))
theorem cfNW.start  (m : Nat) (x0 : (List (El TPair))) (x1 : Unit) : cfNW.go  (m + 1) x0 x1 =
  test (ixNW.pre (x0, (Unit.unit, Unit.unit))) (
   some ((.c (.v (.bool (decide ((ixOf nwB x0) ≥ (0 : Int)))))), [])) := by kernel_rfl
theorem cfNW.run_eq  (m : Nat) (x0 : (List (El TPair))) (x1 : Unit) : run (cfNW.cfg ) Try.f58.ntmps Try.f58.results.toList m [.code (bodyOf Try.f58)] (enter (ivA cfNW.ps (x0, x1, ()))) = cfNW.go  m x0 x1 := by kernel_rfl
theorem cfNW.ret  (hs : SpecsOK Try.prog (cfNW.specs ))  (x0 : (List (El TPair))) (x1 : Unit) {m : Nat} {r : IV} (h : cfNW.go  m x0 x1 = some (r, [])) : VE.Returns Try.prog 58 (ivA cfNW.ps (x0, x1, ())) r :=
  returns_of_run (cfg := cfNW.cfg ) (cfgOK_of mixed tab_ok hs .nil) rfl Try.func58 (body_some (by kernel_rfl)) (Nat.le_of_ble_eq_true (by kernel_rfl)) ((cfNW.run_eq  m x0 x1).trans h)
abbrev cfNW.Law : Prop := ∀ (x0 : (List (El TPair))) (x1 : Unit), cfNW.pre (x0, x1, ()) = true → VE.Returns Try.prog 58 (ivA cfNW.ps (x0, x1, ())) (cfNW.res (x0, x1, ()))
theorem cfNW.mkR (H : ∀ (x0 : (List (El TPair))) (x1 : Unit), cfNW.pre (x0, x1, ()) = true → VE.Returns Try.prog 58 (ivA cfNW.ps (x0, x1, ())) (cfNW.res (x0, x1, ()))) : SpecOK Try.prog 58 cfNW.sp :=
  specOf_ret Try.func58 (by kernel_rfl) (by kernel_rfl) fun (x : (List (El TPair)) × Unit × Unit) hx => H (x.1) (x.2.1) hx
theorem cfNW.mk  (hs : SpecsOK Try.prog (cfNW.specs ))  (H : ∀ (x0 : (List (El TPair))) (x1 : Unit), cfNW.pre (x0, x1, ()) = true → ∃ m, cfNW.go  m x0 x1 = some (cfNW.res (x0, x1, ()), [])) : SpecOK Try.prog 58 cfNW.sp :=
  cfNW.mkR fun x0 x1 hx => (H x0 x1 hx).elim fun _ hm => cfNW.ret  hs  x0 x1 hm

/-! ### triage/host.MaySubset -/
abbrev maySub.ps : List AK := [.d false (.sl TPair)]
def maySub.pre : ElA maySub.ps → Bool := fun (x : (List (El TPair)) × Unit) => fits (.sl TPair) (x.1) && (true)
def maySub.res : ElA maySub.ps → IV := fun (x : (List (El TPair)) × Unit) => (fun l => vb (maySubB l)) x.1
def maySub.sp : ISpec := spOf maySub.ps maySub.pre maySub.res
abbrev maySub.OK : Prop := SpecOK Try.prog 56 maySub.sp
noncomputable def maySub.body : Code := bodyOf Try.f56
noncomputable def maySub.rs : List ResultVar := Try.f56.results.toList
def maySub.live : List (Nat × Live) := []
noncomputable def maySub.specs  : List (Nat × (List Bool × ISpec)) := [(58, ([], cfNW.sp))]
noncomputable def maySub.ospecs  : List (Nat × OS) := []
noncomputable def maySub.cfg  : Cfg := ⟨lkp tab, lkp (maySub.specs ), lkp maySub.live, ⟨lkp (maySub.ospecs ), [], none, false, []⟩⟩
noncomputable def maySub.go  (m : Nat) (x0 : (List (El TPair))) : R := run (maySub.cfg ) 11 maySub.rs m [.code maySub.body] (enter (ivA maySub.ps (x0, ())))
theorem maySub.start  (m : Nat) (x0 : (List (El TPair))) : maySub.go  (m + 1) x0 =
  cond (decide (((List.length x0) : Int) ≤ (6 : Int))) (
   test (cfNW.pre (x0, (Unit.unit, Unit.unit))) (
    some ((.c (.v (.bool (Bool.not (List.any x0 nwB))))), []))) (
   some ((.c (.v (.bool false))), [])) := by kernel_rfl
theorem maySub.run_eq  (m : Nat) (x0 : (List (El TPair))) : run (maySub.cfg ) Try.f56.ntmps Try.f56.results.toList m [.code (bodyOf Try.f56)] (enter (ivA maySub.ps (x0, ()))) = maySub.go  m x0 := by kernel_rfl
theorem maySub.ret  (hs : SpecsOK Try.prog (maySub.specs ))  (x0 : (List (El TPair))) {m : Nat} {r : IV} (h : maySub.go  m x0 = some (r, [])) : VE.Returns Try.prog 56 (ivA maySub.ps (x0, ())) r :=
  returns_of_run (cfg := maySub.cfg ) (cfgOK_of mixed tab_ok hs .nil) rfl Try.func56 (body_some (by kernel_rfl)) (Nat.le_of_ble_eq_true (by kernel_rfl)) ((maySub.run_eq  m x0).trans h)
abbrev maySub.Law : Prop := ∀ (x0 : (List (El TPair))), maySub.pre (x0, ()) = true → VE.Returns Try.prog 56 (ivA maySub.ps (x0, ())) (maySub.res (x0, ()))
theorem maySub.mkR (H : ∀ (x0 : (List (El TPair))), maySub.pre (x0, ()) = true → VE.Returns Try.prog 56 (ivA maySub.ps (x0, ())) (maySub.res (x0, ()))) : SpecOK Try.prog 56 maySub.sp :=
  specOf_ret Try.func56 (by kernel_rfl) (by kernel_rfl) fun (x : (List (El TPair)) × Unit) hx => H (x.1) hx
theorem maySub.mk  (hs : SpecsOK Try.prog (maySub.specs ))  (H : ∀ (x0 : (List (El TPair))), maySub.pre (x0, ()) = true → ∃ m, maySub.go  m x0 = some (maySub.res (x0, ()), [])) : SpecOK Try.prog 56 maySub.sp :=
  maySub.mkR fun x0 hx => (H x0 hx).elim fun _ hm => maySub.ret  hs  x0 hm

/-! ### triage/triageref1.MaySubset -/
abbrev maySubR.ps : List AK := [.d false (.sl TPair)]
def maySubR.pre : ElA maySubR.ps → Bool := fun (x : (List (El TPair)) × Unit) => fits (.sl TPair) (x.1) && (true)
def maySubR.res : ElA maySubR.ps → IV := fun (x : (List (El TPair)) × Unit) => (fun l => vb (maySubB l)) x.1
def maySubR.sp : ISpec := spOf maySubR.ps maySubR.pre maySubR.res
abbrev maySubR.OK : Prop := SpecOK Try.prog 39 maySubR.sp
noncomputable def maySubR.body : Code := bodyOf Try.f39
noncomputable def maySubR.rs : List ResultVar := Try.f39.results.toList
def maySubR.live : List (Nat × Live) := [(2, ⟨[(0, .sl TPair), (5, .sl TPair), (6, .plain), (7, .plain)], []⟩)]
noncomputable def maySubR.specs  : List (Nat × (List Bool × ISpec)) := [(38, ([], wordR.sp))]
noncomputable def maySubR.ospecs  : List (Nat × OS) := []
noncomputable def maySubR.cfg  : Cfg := ⟨lkp tab, lkp (maySubR.specs ), lkp maySubR.live, ⟨lkp (maySubR.ospecs ), [], none, false, []⟩⟩
noncomputable def maySubR.l1  (m : Nat) (x0 : List (El TPair)) (x1 : List (El TPair)) (x2 : Int) (x3 : Int) : R := run (maySubR.cfg ) 25 maySubR.rs m ((todoR 2 maySubR.body []).getD []) ⟨ofList (.c .junk) [(0, (.c (.sl TPair x0))), (5, (.c (.sl TPair x1))), (6, (.c (.v (.int .i64 x2)))), (7, (.c (.v (.int .i64 x3))))], ofList none [], ofList false []⟩
noncomputable def maySubR.go  (m : Nat) (x0 : (List (El TPair))) : R := run (maySubR.cfg ) 25 maySubR.rs m [.code maySubR.body] (enter (ivA maySubR.ps (x0, ())))
theorem maySubR.start  (m : Nat) (x0 : (List (El TPair))) : maySubR.go  (m + 1) x0 =
  maySubR.l1  m x0 x0 ((List.length x0) : Int) (0 : Int) := by kernel_rfl
theorem maySubR.s1  (m : Nat) (x0 : List (El TPair)) (x1 : List (El TPair)) (x2 : Int) (x3 : Int) : maySubR.l1  (m + 1) x0 x1 x2 x3 =
  cond (decide (x3 < x2)) (
   test (decide ((0 : Int) ≤ x3)) (
    test (decide (x3 < ((List.length x1) : Int))) (
     test (wordR.pre (((rdEl TPair x1 (Int.toNat x3))).1, Unit.unit)) (
      cond (Bool.not (wordB ((rdEl TPair x1 (Int.toNat x3))).1)) (
       some ((.c (.v (.bool false))), [])) (
       test (wordR.pre (((rdEl TPair x1 (Int.toNat x3))).2, Unit.unit)) (
        cond (Bool.not (wordB ((rdEl TPair x1 (Int.toNat x3))).2)) (
         some ((.c (.v (.bool false))), [])) (
         maySubR.l1  m x0 x1 x2 (IntKind.i64.wrap (x3 + (1 : Int)))))))))) (
   some ((.c (.v (.bool (decide (((List.length x0) : Int) ≤ (6 : Int)))))), [])) := by kernel_rfl
theorem maySubR.run_eq  (m : Nat) (x0 : (List (El TPair))) : run (maySubR.cfg ) Try.f39.ntmps Try.f39.results.toList m [.code (bodyOf Try.f39)] (enter (ivA maySubR.ps (x0, ()))) = maySubR.go  m x0 := by kernel_rfl
theorem maySubR.ret  (hs : SpecsOK Try.prog (maySubR.specs ))  (x0 : (List (El TPair))) {m : Nat} {r : IV} (h : maySubR.go  m x0 = some (r, [])) : VE.Returns Try.prog 39 (ivA maySubR.ps (x0, ())) r :=
  returns_of_run (cfg := maySubR.cfg ) (cfgOK_of mixed tab_ok hs .nil) rfl Try.func39 (body_some (by kernel_rfl)) (Nat.le_of_ble_eq_true (by kernel_rfl)) ((maySubR.run_eq  m x0).trans h)
abbrev maySubR.Law : Prop := ∀ (x0 : (List (El TPair))), maySubR.pre (x0, ()) = true → VE.Returns Try.prog 39 (ivA maySubR.ps (x0, ())) (maySubR.res (x0, ()))
theorem maySubR.mkR (H : ∀ (x0 : (List (El TPair))), maySubR.pre (x0, ()) = true → VE.Returns Try.prog 39 (ivA maySubR.ps (x0, ())) (maySubR.res (x0, ()))) : SpecOK Try.prog 39 maySubR.sp :=
  specOf_ret Try.func39 (by kernel_rfl) (by kernel_rfl) fun (x : (List (El TPair)) × Unit) hx => H (x.1) hx
theorem maySubR.mk  (hs : SpecsOK Try.prog (maySubR.specs ))  (H : ∀ (x0 : (List (El TPair))), maySubR.pre (x0, ()) = true → ∃ m, maySubR.go  m x0 = some (maySubR.res (x0, ()), [])) : SpecOK Try.prog 39 maySubR.sp :=
  maySubR.mkR fun x0 hx => (H x0 hx).elim fun _ hm => maySubR.ret  hs  x0 hm

/-! ### triage/host.May -/
abbrev may.ps : List AK := [.d true THost]
def may.pre : ElA may.ps → Bool := fun (x : (El THost) × Unit) => fits THost (x.1) && (true)
def may.res : ElA may.ps → IV := fun (x : (El THost) × Unit) => (fun h => vb (mayB h)) x.1
def may.sp : ISpec := spOf may.ps may.pre may.res
abbrev may.OK : Prop := SpecOK Try.prog 51 may.sp
noncomputable def may.body : Code := bodyOf Try.f51
noncomputable def may.rs : List ResultVar := Try.f51.results.toList
def may.live : List (Nat × Live) := [(2, ⟨[(1, .plain), (3, .plain)], [(1, [])]⟩)]
noncomputable def may.specs  : List (Nat × (List Bool × ISpec)) := [(55, ([], word.sp)), (56, ([], maySub.sp))]
noncomputable def may.ospecs  : List (Nat × OS) := []
noncomputable def may.cfg  : Cfg := ⟨lkp tab, lkp (may.specs ), lkp may.live, ⟨lkp (may.ospecs ), [], none, false, []⟩⟩
noncomputable def may.l1  (m : Nat) (x0 : Int) (x1 : Int) (x2 : ByteArray) (x3 : Int) (x4 : ByteArray) (x5 : Int) (x6 : List (El TPair)) : R := run (may.cfg ) 73 may.rs m ((todoR 2 may.body []).getD []) ⟨ofList (.c .junk) [(1, (.c (.ref 1 0))), (3, (.c (.v (.int .i64 x0))))], ofList none [(1, some (.cells 28 [(.v (.int .i64 x1)), (.v (.string x2)), (.v (.int .i64 x3)), (.v (.string x4)), (.v (.int .i64 x5)), (.sl TPair x6)]))], ofList false [(1, true)]⟩
noncomputable def may.go  (m : Nat) (x0 : (El THost)) : R := run (may.cfg ) 73 may.rs m [.code may.body] (enter (ivA may.ps (x0, ())))
theorem may.start  (m : Nat) (x0 : (El THost)) : may.go  (m + 1) x0 =
  may.l1  m (1 : Int) x0.1 x0.2.1 x0.2.2.1 x0.2.2.2.1 x0.2.2.2.2.1 x0.2.2.2.2.2 := by kernel_rfl
theorem may.s1  (m : Nat) (x0 : Int) (x1 : Int) (x2 : ByteArray) (x3 : Int) (x4 : ByteArray) (x5 : Int) (x6 : List (El TPair)) : may.l1  (m + 1) x0 x1 x2 x3 x4 x5 x6 =
  cond (decide (x0 < ((List.length x6) : Int))) (
   test (decide ((0 : Int) ≤ (IntKind.i64.wrap (x0 - (1 : Int))))) (
    test (decide ((IntKind.i64.wrap (x0 - (1 : Int))) < ((List.length x6) : Int))) (
     test (decide ((0 : Int) ≤ x0)) (
      test (decide (x0 < ((List.length x6) : Int))) (
       cond (Bool.not (Go.Op.bytesLess (ByteArray.toList ((rdEl TPair x6 (Int.toNat (IntKind.i64.wrap (x0 - (1 : Int)))))).1) (ByteArray.toList ((rdEl TPair x6 (Int.toNat x0))).1))) (
        some ((.c (.v (.bool false))), [])) (
        may.l1  m (IntKind.i64.wrap (x0 + (1 : Int))) x1 x2 x3 x4 x5 x6)))))) (
   cond (decide (x1 ≥ (1 : Int))) (
    cond (decide (x1 ≤ (1000000 : Int))) (
     test (word.pre (x2, Unit.unit)) (
      cond (wordB x2) (
       cond ((ByteArray.toList x4) == (ByteArray.toList (⟨#[]⟩ : ByteArray))) (
        cond (decide (x3 ≥ (0 : Int))) (
         cond (decide (x3 ≤ (3 : Int))) (
          cond (decide (x5 ≥ (1 : Int))) (
           cond (decide (x5 ≤ (20 : Int))) (
            test (maySub.pre (x6, Unit.unit)) (
             some ((.c (.v (.bool (maySubB x6)))), []))) (
            some ((.c (.v (.bool false))), []))) (
           some ((.c (.v (.bool false))), []))) (
          some ((.c (.v (.bool false))), []))) (
         some ((.c (.v (.bool false))), []))) (
        test (word.pre (x4, Unit.unit)) (
         cond (wordB x4) (
          cond (decide (x3 ≥ (0 : Int))) (
           cond (decide (x3 ≤ (3 : Int))) (
            cond (decide (x5 ≥ (1 : Int))) (
             cond (decide (x5 ≤ (20 : Int))) (
              test (maySub.pre (x6, Unit.unit)) (
               some ((.c (.v (.bool (maySubB x6)))), []))) (
              some ((.c (.v (.bool false))), []))) (
             some ((.c (.v (.bool false))), []))) (
            some ((.c (.v (.bool false))), []))) (
           some ((.c (.v (.bool false))), []))) (
          some ((.c (.v (.bool false))), []))))) (
       some ((.c (.v (.bool false))), [])))) (
     some ((.c (.v (.bool false))), []))) (
    some ((.c (.v (.bool false))), []))) := by kernel_rfl
theorem may.run_eq  (m : Nat) (x0 : (El THost)) : run (may.cfg ) Try.f51.ntmps Try.f51.results.toList m [.code (bodyOf Try.f51)] (enter (ivA may.ps (x0, ()))) = may.go  m x0 := by kernel_rfl
theorem may.ret  (hs : SpecsOK Try.prog (may.specs ))  (x0 : (El THost)) {m : Nat} {r : IV} (h : may.go  m x0 = some (r, [])) : VE.Returns Try.prog 51 (ivA may.ps (x0, ())) r :=
  returns_of_run (cfg := may.cfg ) (cfgOK_of mixed tab_ok hs .nil) rfl Try.func51 (body_some (by kernel_rfl)) (Nat.le_of_ble_eq_true (by kernel_rfl)) ((may.run_eq  m x0).trans h)
abbrev may.Law : Prop := ∀ (x0 : (El THost)), may.pre (x0, ()) = true → VE.Returns Try.prog 51 (ivA may.ps (x0, ())) (may.res (x0, ()))
theorem may.mkR (H : ∀ (x0 : (El THost)), may.pre (x0, ()) = true → VE.Returns Try.prog 51 (ivA may.ps (x0, ())) (may.res (x0, ()))) : SpecOK Try.prog 51 may.sp :=
  specOf_ret Try.func51 (by kernel_rfl) (by kernel_rfl) fun (x : (El THost) × Unit) hx => H (x.1) hx
theorem may.mk  (hs : SpecsOK Try.prog (may.specs ))  (H : ∀ (x0 : (El THost)), may.pre (x0, ()) = true → ∃ m, may.go  m x0 = some (may.res (x0, ()), [])) : SpecOK Try.prog 51 may.sp :=
  may.mkR fun x0 hx => (H x0 hx).elim fun _ hm => may.ret  hs  x0 hm

/-! ### triage/triageref1.MayHost -/
abbrev mayR.ps : List AK := [.d true THost]
def mayR.pre : ElA mayR.ps → Bool := fun (x : (El THost) × Unit) => fits THost (x.1) && (true)
def mayR.res : ElA mayR.ps → IV := fun (x : (El THost) × Unit) => (fun h => vb (mayB h)) x.1
def mayR.sp : ISpec := spOf mayR.ps mayR.pre mayR.res
abbrev mayR.OK : Prop := SpecOK Try.prog 17 mayR.sp
noncomputable def mayR.body : Code := bodyOf Try.f17
noncomputable def mayR.rs : List ResultVar := Try.f17.results.toList
def mayR.live : List (Nat × Live) := [(4, ⟨[(1, .plain), (3, .plain)], [(1, [])]⟩)]
noncomputable def mayR.specs  : List (Nat × (List Bool × ISpec)) := [(38, ([], wordR.sp)), (39, ([], maySubR.sp))]
noncomputable def mayR.ospecs  : List (Nat × OS) := []
noncomputable def mayR.cfg  : Cfg := ⟨lkp tab, lkp (mayR.specs ), lkp mayR.live, ⟨lkp (mayR.ospecs ), [], none, false, []⟩⟩
noncomputable def mayR.l1  (m : Nat) (x0 : Int) (x1 : Int) (x2 : ByteArray) (x3 : Int) (x4 : ByteArray) (x5 : Int) (x6 : List (El TPair)) : R := run (mayR.cfg ) 76 mayR.rs m ((todoR 4 mayR.body []).getD []) ⟨ofList (.c .junk) [(1, (.c (.ref 1 0))), (3, (.c (.v (.int .i64 x0))))], ofList none [(1, some (.cells 28 [(.v (.int .i64 x1)), (.v (.string x2)), (.v (.int .i64 x3)), (.v (.string x4)), (.v (.int .i64 x5)), (.sl TPair x6)]))], ofList false [(1, true)]⟩
noncomputable def mayR.go  (m : Nat) (x0 : (El THost)) : R := run (mayR.cfg ) 76 mayR.rs m [.code mayR.body] (enter (ivA mayR.ps (x0, ())))
theorem mayR.start  (m : Nat) (x0 : (El THost)) : mayR.go  (m + 1) x0 =
  cond (decide (x0.1 < (1 : Int))) (
   some ((.c (.v (.bool false))), [])) (
   cond (decide (x0.1 > (1000000 : Int))) (
    some ((.c (.v (.bool false))), [])) (
    test (wordR.pre (x0.2.1, Unit.unit)) (
     cond (Bool.not (wordB x0.2.1)) (
      some ((.c (.v (.bool false))), [])) (
      cond (Bool.not ((ByteArray.toList x0.2.2.2.1) == (ByteArray.toList (⟨#[]⟩ : ByteArray)))) (
       test (wordR.pre (x0.2.2.2.1, Unit.unit)) (
        cond (Bool.not (wordB x0.2.2.2.1)) (
         some ((.c (.v (.bool false))), [])) (
         cond (decide (x0.2.2.1 < (0 : Int))) (
          some ((.c (.v (.bool false))), [])) (
          cond (decide (x0.2.2.1 > (3 : Int))) (
           some ((.c (.v (.bool false))), [])) (
           cond (decide (x0.2.2.2.2.1 < (1 : Int))) (
            some ((.c (.v (.bool false))), [])) (
            cond (decide (x0.2.2.2.2.1 > (20 : Int))) (
             some ((.c (.v (.bool false))), [])) (
             test (maySubR.pre (x0.2.2.2.2.2, Unit.unit)) (
              cond (Bool.not (maySubB x0.2.2.2.2.2)) (
               some ((.c (.v (.bool false))), [])) (
               mayR.l1  m (1 : Int) x0.1 x0.2.1 x0.2.2.1 x0.2.2.2.1 x0.2.2.2.2.1 x0.2.2.2.2.2))))))))) (
       cond (decide (x0.2.2.1 < (0 : Int))) (
        some ((.c (.v (.bool false))), [])) (
        cond (decide (x0.2.2.1 > (3 : Int))) (
         some ((.c (.v (.bool false))), [])) (
         cond (decide (x0.2.2.2.2.1 < (1 : Int))) (
          some ((.c (.v (.bool false))), [])) (
          cond (decide (x0.2.2.2.2.1 > (20 : Int))) (
           some ((.c (.v (.bool false))), [])) (
           test (maySubR.pre (x0.2.2.2.2.2, Unit.unit)) (
            cond (Bool.not (maySubB x0.2.2.2.2.2)) (
             some ((.c (.v (.bool false))), [])) (
             mayR.l1  m (1 : Int) x0.1 x0.2.1 x0.2.2.1 x0.2.2.2.1 x0.2.2.2.2.1 x0.2.2.2.2.2))))))))))) := by kernel_rfl
theorem mayR.s1  (m : Nat) (x0 : Int) (x1 : Int) (x2 : ByteArray) (x3 : Int) (x4 : ByteArray) (x5 : Int) (x6 : List (El TPair)) : mayR.l1  (m + 1) x0 x1 x2 x3 x4 x5 x6 =
  cond (decide (x0 < ((List.length x6) : Int))) (
   test (decide ((0 : Int) ≤ x0)) (
    test (decide (x0 < ((List.length x6) : Int))) (
     test (decide ((0 : Int) ≤ (IntKind.i64.wrap (x0 - (1 : Int))))) (
      test (decide ((IntKind.i64.wrap (x0 - (1 : Int))) < ((List.length x6) : Int))) (
       cond ((Go.Op.bytesLess (ByteArray.toList ((rdEl TPair x6 (Int.toNat x0))).1) (ByteArray.toList ((rdEl TPair x6 (Int.toNat (IntKind.i64.wrap (x0 - (1 : Int)))))).1)) || ((ByteArray.toList ((rdEl TPair x6 (Int.toNat x0))).1) == (ByteArray.toList ((rdEl TPair x6 (Int.toNat (IntKind.i64.wrap (x0 - (1 : Int)))))).1))) (
        some ((.c (.v (.bool false))), [])) (
        mayR.l1  m (IntKind.i64.wrap (x0 + (1 : Int))) x1 x2 x3 x4 x5 x6)))))) (
   some ((.c (.v (.bool true))), [])) := by kernel_rfl
theorem mayR.run_eq  (m : Nat) (x0 : (El THost)) : run (mayR.cfg ) Try.f17.ntmps Try.f17.results.toList m [.code (bodyOf Try.f17)] (enter (ivA mayR.ps (x0, ()))) = mayR.go  m x0 := by kernel_rfl
theorem mayR.ret  (hs : SpecsOK Try.prog (mayR.specs ))  (x0 : (El THost)) {m : Nat} {r : IV} (h : mayR.go  m x0 = some (r, [])) : VE.Returns Try.prog 17 (ivA mayR.ps (x0, ())) r :=
  returns_of_run (cfg := mayR.cfg ) (cfgOK_of mixed tab_ok hs .nil) rfl Try.func17 (body_some (by kernel_rfl)) (Nat.le_of_ble_eq_true (by kernel_rfl)) ((mayR.run_eq  m x0).trans h)
abbrev mayR.Law : Prop := ∀ (x0 : (El THost)), mayR.pre (x0, ()) = true → VE.Returns Try.prog 17 (ivA mayR.ps (x0, ())) (mayR.res (x0, ()))
theorem mayR.mkR (H : ∀ (x0 : (El THost)), mayR.pre (x0, ()) = true → VE.Returns Try.prog 17 (ivA mayR.ps (x0, ())) (mayR.res (x0, ()))) : SpecOK Try.prog 17 mayR.sp :=
  specOf_ret Try.func17 (by kernel_rfl) (by kernel_rfl) fun (x : (El THost) × Unit) hx => H (x.1) hx
theorem mayR.mk  (hs : SpecsOK Try.prog (mayR.specs ))  (H : ∀ (x0 : (El THost)), mayR.pre (x0, ()) = true → ∃ m, mayR.go  m x0 = some (mayR.res (x0, ()), [])) : SpecOK Try.prog 17 mayR.sp :=
  mayR.mkR fun x0 hx => (H x0 hx).elim fun _ hm => mayR.ret  hs  x0 hm

/-! ### slices.Equal(()triage/api.Pair,triage/api.Pair) -/
abbrev eqP.ps : List AK := [.d false (.sl TPair), .d false (.sl TPair)]
def eqP.pre : ElA eqP.ps → Bool := fun (x : (List (El TPair)) × (List (El TPair)) × Unit) => fits (.sl TPair) (x.1) && (fits (.sl TPair) (x.2.1) && (true))
def eqP.res : ElA eqP.ps → IV := fun (x : (List (El TPair)) × (List (El TPair)) × Unit) => (fun l m => vb (samePs l m)) x.1 x.2.1
def eqP.sp : ISpec := spOf eqP.ps eqP.pre eqP.res
abbrev eqP.OK : Prop := SpecOK Try.prog 57 eqP.sp
noncomputable def eqP.body : Code := bodyOf Try.f57
noncomputable def eqP.rs : List ResultVar := Try.f57.results.toList
def eqP.live : List (Nat × Live) := [(4, ⟨[(0, .sl TPair), (1, .sl TPair), (12, .plain), (13, .plain)], []⟩)]
noncomputable def eqP.specs  : List (Nat × (List Bool × ISpec)) := []
noncomputable def eqP.ospecs  : List (Nat × OS) := []
noncomputable def eqP.cfg  : Cfg := ⟨lkp tab, lkp (eqP.specs ), lkp eqP.live, ⟨lkp (eqP.ospecs ), [], none, false, []⟩⟩
noncomputable def eqP.l1  (m : Nat) (x0 : List (El TPair)) (x1 : List (El TPair)) (x2 : Int) (x3 : Int) : R := run (eqP.cfg ) 26 eqP.rs m ((todoR 4 eqP.body []).getD []) ⟨ofList (.c .junk) [(0, (.c (.sl TPair x0))), (1, (.c (.sl TPair x1))), (12, (.c (.v (.int .i64 x2)))), (13, (.c (.v (.int .i64 x3))))], ofList none [], ofList false []⟩
noncomputable def eqP.go  (m : Nat) (x0 : (List (El TPair))) (x1 : (List (El TPair))) : R := run (eqP.cfg ) 26 eqP.rs m [.code eqP.body] (enter (ivA eqP.ps (x0, x1, ())))
theorem eqP.start  (m : Nat) (x0 : (List (El TPair))) (x1 : (List (El TPair))) : eqP.go  (m + 1) x0 x1 =
  cond (bne ((List.length x0) : Int) ((List.length x1) : Int)) (
   some ((.c (.v (.bool false))), [])) (
   eqP.l1  m x0 x1 ((List.length x0) : Int) (0 : Int)) := by kernel_rfl
theorem eqP.s1  (m : Nat) (x0 : List (El TPair)) (x1 : List (El TPair)) (x2 : Int) (x3 : Int) : eqP.l1  (m + 1) x0 x1 x2 x3 =
  cond (decide (x3 < x2)) (
   test (decide ((0 : Int) ≤ x3)) (
    test (decide (x3 < ((List.length x0) : Int))) (
     test (decide ((0 : Int) ≤ x3)) (
      test (decide (x3 < ((List.length x1) : Int))) (
       cond (Bool.not (((ByteArray.toList ((rdEl TPair x0 (Int.toNat x3))).1) == (ByteArray.toList ((rdEl TPair x1 (Int.toNat x3))).1)) && (((ByteArray.toList ((rdEl TPair x0 (Int.toNat x3))).2) == (ByteArray.toList ((rdEl TPair x1 (Int.toNat x3))).2)) && true))) (
        some ((.c (.v (.bool false))), [])) (
        eqP.l1  m x0 x1 x2 (IntKind.i64.wrap (x3 + (1 : Int))))))))) (
   some ((.c (.v (.bool true))), [])) := by kernel_rfl
theorem eqP.run_eq  (m : Nat) (x0 : (List (El TPair))) (x1 : (List (El TPair))) : run (eqP.cfg ) Try.f57.ntmps Try.f57.results.toList m [.code (bodyOf Try.f57)] (enter (ivA eqP.ps (x0, x1, ()))) = eqP.go  m x0 x1 := by kernel_rfl
theorem eqP.ret  (hs : SpecsOK Try.prog (eqP.specs ))  (x0 : (List (El TPair))) (x1 : (List (El TPair))) {m : Nat} {r : IV} (h : eqP.go  m x0 x1 = some (r, [])) : VE.Returns Try.prog 57 (ivA eqP.ps (x0, x1, ())) r :=
  returns_of_run (cfg := eqP.cfg ) (cfgOK_of mixed tab_ok hs .nil) rfl Try.func57 (body_some (by kernel_rfl)) (Nat.le_of_ble_eq_true (by kernel_rfl)) ((eqP.run_eq  m x0 x1).trans h)
abbrev eqP.Law : Prop := ∀ (x0 : (List (El TPair))) (x1 : (List (El TPair))), eqP.pre (x0, x1, ()) = true → VE.Returns Try.prog 57 (ivA eqP.ps (x0, x1, ())) (eqP.res (x0, x1, ()))
theorem eqP.mkR (H : ∀ (x0 : (List (El TPair))) (x1 : (List (El TPair))), eqP.pre (x0, x1, ()) = true → VE.Returns Try.prog 57 (ivA eqP.ps (x0, x1, ())) (eqP.res (x0, x1, ()))) : SpecOK Try.prog 57 eqP.sp :=
  specOf_ret Try.func57 (by kernel_rfl) (by kernel_rfl) fun (x : (List (El TPair)) × (List (El TPair)) × Unit) hx => H (x.1) (x.2.1) hx
theorem eqP.mk  (hs : SpecsOK Try.prog (eqP.specs ))  (H : ∀ (x0 : (List (El TPair))) (x1 : (List (El TPair))), eqP.pre (x0, x1, ()) = true → ∃ m, eqP.go  m x0 x1 = some (eqP.res (x0, x1, ()), [])) : SpecOK Try.prog 57 eqP.sp :=
  eqP.mkR fun x0 x1 hx => (H x0 x1 hx).elim fun _ hm => eqP.ret  hs  x0 x1 hm

/-! ### triage/triageref1.SamePairs -/
abbrev samePR.ps : List AK := [.d false (.sl TPair), .d false (.sl TPair)]
def samePR.pre : ElA samePR.ps → Bool := fun (x : (List (El TPair)) × (List (El TPair)) × Unit) => fits (.sl TPair) (x.1) && (fits (.sl TPair) (x.2.1) && (true))
def samePR.res : ElA samePR.ps → IV := fun (x : (List (El TPair)) × (List (El TPair)) × Unit) => (fun l m => vb (samePs l m)) x.1 x.2.1
def samePR.sp : ISpec := spOf samePR.ps samePR.pre samePR.res
abbrev samePR.OK : Prop := SpecOK Try.prog 53 samePR.sp
noncomputable def samePR.body : Code := bodyOf Try.f53
noncomputable def samePR.rs : List ResultVar := Try.f53.results.toList
def samePR.live : List (Nat × Live) := [(4, ⟨[(0, .sl TPair), (1, .sl TPair), (12, .plain), (13, .plain)], []⟩)]
noncomputable def samePR.specs  : List (Nat × (List Bool × ISpec)) := []
noncomputable def samePR.ospecs  : List (Nat × OS) := []
noncomputable def samePR.cfg  : Cfg := ⟨lkp tab, lkp (samePR.specs ), lkp samePR.live, ⟨lkp (samePR.ospecs ), [], none, false, []⟩⟩
noncomputable def samePR.l1  (m : Nat) (x0 : List (El TPair)) (x1 : List (El TPair)) (x2 : Int) (x3 : Int) : R := run (samePR.cfg ) 26 samePR.rs m ((todoR 4 samePR.body []).getD []) ⟨ofList (.c .junk) [(0, (.c (.sl TPair x0))), (1, (.c (.sl TPair x1))), (12, (.c (.v (.int .i64 x2)))), (13, (.c (.v (.int .i64 x3))))], ofList none [], ofList false []⟩
noncomputable def samePR.go  (m : Nat) (x0 : (List (El TPair))) (x1 : (List (El TPair))) : R := run (samePR.cfg ) 26 samePR.rs m [.code samePR.body] (enter (ivA samePR.ps (x0, x1, ())))
theorem samePR.start  (m : Nat) (x0 : (List (El TPair))) (x1 : (List (El TPair))) : samePR.go  (m + 1) x0 x1 =
  cond (bne ((List.length x0) : Int) ((List.length x1) : Int)) (
   some ((.c (.v (.bool false))), [])) (
   samePR.l1  m x0 x1 ((List.length x0) : Int) (0 : Int)) := by kernel_rfl
theorem samePR.s1  (m : Nat) (x0 : List (El TPair)) (x1 : List (El TPair)) (x2 : Int) (x3 : Int) : samePR.l1  (m + 1) x0 x1 x2 x3 =
  cond (decide (x3 < x2)) (
   test (decide ((0 : Int) ≤ x3)) (
    test (decide (x3 < ((List.length x0) : Int))) (
     test (decide ((0 : Int) ≤ x3)) (
      test (decide (x3 < ((List.length x1) : Int))) (
       cond (Bool.not (((ByteArray.toList ((rdEl TPair x0 (Int.toNat x3))).1) == (ByteArray.toList ((rdEl TPair x1 (Int.toNat x3))).1)) && (((ByteArray.toList ((rdEl TPair x0 (Int.toNat x3))).2) == (ByteArray.toList ((rdEl TPair x1 (Int.toNat x3))).2)) && true))) (
        some ((.c (.v (.bool false))), [])) (
        samePR.l1  m x0 x1 x2 (IntKind.i64.wrap (x3 + (1 : Int))))))))) (
   some ((.c (.v (.bool true))), [])) := by kernel_rfl
theorem samePR.run_eq  (m : Nat) (x0 : (List (El TPair))) (x1 : (List (El TPair))) : run (samePR.cfg ) Try.f53.ntmps Try.f53.results.toList m [.code (bodyOf Try.f53)] (enter (ivA samePR.ps (x0, x1, ()))) = samePR.go  m x0 x1 := by kernel_rfl
theorem samePR.ret  (hs : SpecsOK Try.prog (samePR.specs ))  (x0 : (List (El TPair))) (x1 : (List (El TPair))) {m : Nat} {r : IV} (h : samePR.go  m x0 x1 = some (r, [])) : VE.Returns Try.prog 53 (ivA samePR.ps (x0, x1, ())) r :=
  returns_of_run (cfg := samePR.cfg ) (cfgOK_of mixed tab_ok hs .nil) rfl Try.func53 (body_some (by kernel_rfl)) (Nat.le_of_ble_eq_true (by kernel_rfl)) ((samePR.run_eq  m x0 x1).trans h)
abbrev samePR.Law : Prop := ∀ (x0 : (List (El TPair))) (x1 : (List (El TPair))), samePR.pre (x0, x1, ()) = true → VE.Returns Try.prog 53 (ivA samePR.ps (x0, x1, ())) (samePR.res (x0, x1, ()))
theorem samePR.mkR (H : ∀ (x0 : (List (El TPair))) (x1 : (List (El TPair))), samePR.pre (x0, x1, ()) = true → VE.Returns Try.prog 53 (ivA samePR.ps (x0, x1, ())) (samePR.res (x0, x1, ()))) : SpecOK Try.prog 53 samePR.sp :=
  specOf_ret Try.func53 (by kernel_rfl) (by kernel_rfl) fun (x : (List (El TPair)) × (List (El TPair)) × Unit) hx => H (x.1) (x.2.1) hx
theorem samePR.mk  (hs : SpecsOK Try.prog (samePR.specs ))  (H : ∀ (x0 : (List (El TPair))) (x1 : (List (El TPair))), samePR.pre (x0, x1, ()) = true → ∃ m, samePR.go  m x0 x1 = some (samePR.res (x0, x1, ()), [])) : SpecOK Try.prog 53 samePR.sp :=
  samePR.mkR fun x0 x1 hx => (H x0 x1 hx).elim fun _ hm => samePR.ret  hs  x0 x1 hm

/-! ### triage/host.Same -/
abbrev same.ps : List AK := [.d true THost, .d true THost]
def same.pre : ElA same.ps → Bool := fun (x : (El THost) × (El THost) × Unit) => fits THost (x.1) && (fits THost (x.2.1) && (true))
def same.res : ElA same.ps → IV := fun (x : (El THost) × (El THost) × Unit) => (fun a b => vb (sameB a b)) x.1 x.2.1
def same.sp : ISpec := spOf same.ps same.pre same.res
abbrev same.OK : Prop := SpecOK Try.prog 54 same.sp
noncomputable def same.body : Code := bodyOf Try.f54
noncomputable def same.rs : List ResultVar := Try.f54.results.toList
def same.live : List (Nat × Live) := []
noncomputable def same.specs  : List (Nat × (List Bool × ISpec)) := [(57, ([], eqP.sp))]
noncomputable def same.ospecs  : List (Nat × OS) := []
noncomputable def same.cfg  : Cfg := ⟨lkp tab, lkp (same.specs ), lkp same.live, ⟨lkp (same.ospecs ), [], none, false, []⟩⟩
noncomputable def same.go  (m : Nat) (x0 : (El THost)) (x1 : (El THost)) : R := run (same.cfg ) 45 same.rs m [.code same.body] (enter (ivA same.ps (x0, x1, ())))
theorem same.start  (m : Nat) (x0 : (El THost)) (x1 : (El THost)) : same.go  (m + 1) x0 x1 =
  cond (x0.1 == x1.1) (
   cond ((ByteArray.toList x0.2.1) == (ByteArray.toList x1.2.1)) (
    cond (x0.2.2.1 == x1.2.2.1) (
     cond ((ByteArray.toList x0.2.2.2.1) == (ByteArray.toList x1.2.2.2.1)) (
      cond (x0.2.2.2.2.1 == x1.2.2.2.2.1) (
       test (eqP.pre (x0.2.2.2.2.2, (x1.2.2.2.2.2, Unit.unit))) (
        some ((.c (.v (.bool (samePs x0.2.2.2.2.2 x1.2.2.2.2.2)))), []))) (
       some ((.c (.v (.bool false))), []))) (
      some ((.c (.v (.bool false))), []))) (
     some ((.c (.v (.bool false))), []))) (
    some ((.c (.v (.bool false))), []))) (
   some ((.c (.v (.bool false))), [])) := by kernel_rfl
theorem same.run_eq  (m : Nat) (x0 : (El THost)) (x1 : (El THost)) : run (same.cfg ) Try.f54.ntmps Try.f54.results.toList m [.code (bodyOf Try.f54)] (enter (ivA same.ps (x0, x1, ()))) = same.go  m x0 x1 := by kernel_rfl
theorem same.ret  (hs : SpecsOK Try.prog (same.specs ))  (x0 : (El THost)) (x1 : (El THost)) {m : Nat} {r : IV} (h : same.go  m x0 x1 = some (r, [])) : VE.Returns Try.prog 54 (ivA same.ps (x0, x1, ())) r :=
  returns_of_run (cfg := same.cfg ) (cfgOK_of mixed tab_ok hs .nil) rfl Try.func54 (body_some (by kernel_rfl)) (Nat.le_of_ble_eq_true (by kernel_rfl)) ((same.run_eq  m x0 x1).trans h)
abbrev same.Law : Prop := ∀ (x0 : (El THost)) (x1 : (El THost)), same.pre (x0, x1, ()) = true → VE.Returns Try.prog 54 (ivA same.ps (x0, x1, ())) (same.res (x0, x1, ()))
theorem same.mkR (H : ∀ (x0 : (El THost)) (x1 : (El THost)), same.pre (x0, x1, ()) = true → VE.Returns Try.prog 54 (ivA same.ps (x0, x1, ())) (same.res (x0, x1, ()))) : SpecOK Try.prog 54 same.sp :=
  specOf_ret Try.func54 (by kernel_rfl) (by kernel_rfl) fun (x : (El THost) × (El THost) × Unit) hx => H (x.1) (x.2.1) hx
theorem same.mk  (hs : SpecsOK Try.prog (same.specs ))  (H : ∀ (x0 : (El THost)) (x1 : (El THost)), same.pre (x0, x1, ()) = true → ∃ m, same.go  m x0 x1 = some (same.res (x0, x1, ()), [])) : SpecOK Try.prog 54 same.sp :=
  same.mkR fun x0 x1 hx => (H x0 x1 hx).elim fun _ hm => same.ret  hs  x0 x1 hm

/-! ### triage/triageref1.SameHost -/
abbrev sameR.ps : List AK := [.d true THost, .d true THost]
def sameR.pre : ElA sameR.ps → Bool := fun (x : (El THost) × (El THost) × Unit) => fits THost (x.1) && (fits THost (x.2.1) && (true))
def sameR.res : ElA sameR.ps → IV := fun (x : (El THost) × (El THost) × Unit) => (fun a b => vb (sameB a b)) x.1 x.2.1
def sameR.sp : ISpec := spOf sameR.ps sameR.pre sameR.res
abbrev sameR.OK : Prop := SpecOK Try.prog 45 sameR.sp
noncomputable def sameR.body : Code := bodyOf Try.f45
noncomputable def sameR.rs : List ResultVar := Try.f45.results.toList
def sameR.live : List (Nat × Live) := []
noncomputable def sameR.specs  : List (Nat × (List Bool × ISpec)) := [(53, ([], samePR.sp))]
noncomputable def sameR.ospecs  : List (Nat × OS) := []
noncomputable def sameR.cfg  : Cfg := ⟨lkp tab, lkp (sameR.specs ), lkp sameR.live, ⟨lkp (sameR.ospecs ), [], none, false, []⟩⟩
noncomputable def sameR.go  (m : Nat) (x0 : (El THost)) (x1 : (El THost)) : R := run (sameR.cfg ) 45 sameR.rs m [.code sameR.body] (enter (ivA sameR.ps (x0, x1, ())))
theorem sameR.start  (m : Nat) (x0 : (El THost)) (x1 : (El THost)) : sameR.go  (m + 1) x0 x1 =
  cond (x0.1 == x1.1) (
   cond ((ByteArray.toList x0.2.1) == (ByteArray.toList x1.2.1)) (
    cond (x0.2.2.1 == x1.2.2.1) (
     cond ((ByteArray.toList x0.2.2.2.1) == (ByteArray.toList x1.2.2.2.1)) (
      cond (x0.2.2.2.2.1 == x1.2.2.2.2.1) (
       test (samePR.pre (x0.2.2.2.2.2, (x1.2.2.2.2.2, Unit.unit))) (
        some ((.c (.v (.bool (samePs x0.2.2.2.2.2 x1.2.2.2.2.2)))), []))) (
       some ((.c (.v (.bool false))), []))) (
      some ((.c (.v (.bool false))), []))) (
     some ((.c (.v (.bool false))), []))) (
    some ((.c (.v (.bool false))), []))) (
   some ((.c (.v (.bool false))), [])) := by kernel_rfl
theorem sameR.run_eq  (m : Nat) (x0 : (El THost)) (x1 : (El THost)) : run (sameR.cfg ) Try.f45.ntmps Try.f45.results.toList m [.code (bodyOf Try.f45)] (enter (ivA sameR.ps (x0, x1, ()))) = sameR.go  m x0 x1 := by kernel_rfl
theorem sameR.ret  (hs : SpecsOK Try.prog (sameR.specs ))  (x0 : (El THost)) (x1 : (El THost)) {m : Nat} {r : IV} (h : sameR.go  m x0 x1 = some (r, [])) : VE.Returns Try.prog 45 (ivA sameR.ps (x0, x1, ())) r :=
  returns_of_run (cfg := sameR.cfg ) (cfgOK_of mixed tab_ok hs .nil) rfl Try.func45 (body_some (by kernel_rfl)) (Nat.le_of_ble_eq_true (by kernel_rfl)) ((sameR.run_eq  m x0 x1).trans h)
abbrev sameR.Law : Prop := ∀ (x0 : (El THost)) (x1 : (El THost)), sameR.pre (x0, x1, ()) = true → VE.Returns Try.prog 45 (ivA sameR.ps (x0, x1, ())) (sameR.res (x0, x1, ()))
theorem sameR.mkR (H : ∀ (x0 : (El THost)) (x1 : (El THost)), sameR.pre (x0, x1, ()) = true → VE.Returns Try.prog 45 (ivA sameR.ps (x0, x1, ())) (sameR.res (x0, x1, ()))) : SpecOK Try.prog 45 sameR.sp :=
  specOf_ret Try.func45 (by kernel_rfl) (by kernel_rfl) fun (x : (El THost) × (El THost) × Unit) hx => H (x.1) (x.2.1) hx
theorem sameR.mk  (hs : SpecsOK Try.prog (sameR.specs ))  (H : ∀ (x0 : (El THost)) (x1 : (El THost)), sameR.pre (x0, x1, ()) = true → ∃ m, sameR.go  m x0 x1 = some (sameR.res (x0, x1, ()), [])) : SpecOK Try.prog 45 sameR.sp :=
  sameR.mkR fun x0 x1 hx => (H x0 x1 hx).elim fun _ hm => sameR.ret  hs  x0 x1 hm

/-! ### slices.Clone(()triage/api.Pair,triage/api.Pair) -/
noncomputable def cloneN.body : Code := bodyOf Try.f50
noncomputable def cloneN.rs : List ResultVar := Try.f50.results.toList
def cloneN.live : List (Nat × Live) := []
noncomputable def cloneN.specs  : List (Nat × (List Bool × ISpec)) := []
noncomputable def cloneN.ospecs  : List (Nat × OS) := []
noncomputable def cloneN.cfg  : Cfg := ⟨lkp tab, lkp (cloneN.specs ), lkp cloneN.live, ⟨lkp (cloneN.ospecs ), [], none, false, []⟩⟩
noncomputable def cloneN.go  (m : Nat)  : R := run (cloneN.cfg ) 8 cloneN.rs m [.code cloneN.body] (enter [.c (.v (.slice none 0 0))])
theorem cloneN.start  (m : Nat)  : cloneN.go  (m + 1)  =
  some ((.c (.v (.slice none 0 0))), []) := by kernel_rfl
theorem cloneN.run_eq  (m : Nat)  : run (cloneN.cfg ) Try.f50.ntmps Try.f50.results.toList m [.code (bodyOf Try.f50)] (enter [.c (.v (.slice none 0 0))]) = cloneN.go  m  := by kernel_rfl
theorem cloneN.ret  (hs : SpecsOK Try.prog (cloneN.specs ))   {m : Nat} {r : IV} (h : cloneN.go  m  = some (r, [])) : VE.Returns Try.prog 50 [.c (.v (.slice none 0 0))] r :=
  returns_of_run (cfg := cloneN.cfg ) (cfgOK_of mixed tab_ok hs .nil) rfl Try.func50 (body_some (by kernel_rfl)) (Nat.le_of_ble_eq_true (by kernel_rfl)) ((cloneN.run_eq  m ).trans h)

/-! ### slices.Clone(()triage/api.Pair,triage/api.Pair) -/
noncomputable def cloneE.body : Code := bodyOf Try.f50
noncomputable def cloneE.rs : List ResultVar := Try.f50.results.toList
def cloneE.live : List (Nat × Live) := []
noncomputable def cloneE.specs  : List (Nat × (List Bool × ISpec)) := []
noncomputable def cloneE.ospecs  : List (Nat × OS) := []
noncomputable def cloneE.cfg  : Cfg := ⟨lkp tab, lkp (cloneE.specs ), lkp cloneE.live, ⟨lkp (cloneE.ospecs ), [], none, false, []⟩⟩
noncomputable def cloneE.go  (m : Nat)  : R := run (cloneE.cfg ) 8 cloneE.rs m [.code cloneE.body] (enter [.c .emp])
theorem cloneE.start  (m : Nat)  : cloneE.go  (m + 1)  =
  some ((.c (.sl TPair (([] : List (El TPair)) ++ ([] : List (El TPair))))), []) := by kernel_rfl
theorem cloneE.run_eq  (m : Nat)  : run (cloneE.cfg ) Try.f50.ntmps Try.f50.results.toList m [.code (bodyOf Try.f50)] (enter [.c .emp]) = cloneE.go  m  := by kernel_rfl
theorem cloneE.ret  (hs : SpecsOK Try.prog (cloneE.specs ))   {m : Nat} {r : IV} (h : cloneE.go  m  = some (r, [])) : VE.Returns Try.prog 50 [.c .emp] r :=
  returns_of_run (cfg := cloneE.cfg ) (cfgOK_of mixed tab_ok hs .nil) rfl Try.func50 (body_some (by kernel_rfl)) (Nat.le_of_ble_eq_true (by kernel_rfl)) ((cloneE.run_eq  m ).trans h)

/-! ### slices.Clone(()triage/api.Pair,triage/api.Pair) -/
noncomputable def cloneC.body : Code := bodyOf Try.f50
noncomputable def cloneC.rs : List ResultVar := Try.f50.results.toList
def cloneC.live : List (Nat × Live) := []
noncomputable def cloneC.specs  : List (Nat × (List Bool × ISpec)) := []
noncomputable def cloneC.ospecs  : List (Nat × OS) := []
noncomputable def cloneC.cfg  : Cfg := ⟨lkp tab, lkp (cloneC.specs ), lkp cloneC.live, ⟨lkp (cloneC.ospecs ), [], none, false, []⟩⟩
noncomputable def cloneC.go  (m : Nat) (x0 : (El TPair)) (x1 : (List (El TPair))) : R := run (cloneC.cfg ) 8 cloneC.rs m [.code cloneC.body] (enter [.c (.sl TPair (x0 :: x1))])
theorem cloneC.start  (m : Nat) (x0 : (El TPair)) (x1 : (List (El TPair))) : cloneC.go  (m + 1) x0 x1 =
  test (decide (((List.length ([] : List (El TPair))) + (List.length (x0 :: x1))) ≤ (lim 32))) (
   some ((.c (.sl TPair (([] : List (El TPair)) ++ (x0 :: x1)))), [])) := by kernel_rfl
theorem cloneC.run_eq  (m : Nat) (x0 : (El TPair)) (x1 : (List (El TPair))) : run (cloneC.cfg ) Try.f50.ntmps Try.f50.results.toList m [.code (bodyOf Try.f50)] (enter [.c (.sl TPair (x0 :: x1))]) = cloneC.go  m x0 x1 := by kernel_rfl
theorem cloneC.ret  (hs : SpecsOK Try.prog (cloneC.specs ))  (x0 : (El TPair)) (x1 : (List (El TPair))) {m : Nat} {r : IV} (h : cloneC.go  m x0 x1 = some (r, [])) : VE.Returns Try.prog 50 [.c (.sl TPair (x0 :: x1))] r :=
  returns_of_run (cfg := cloneC.cfg ) (cfgOK_of mixed tab_ok hs .nil) rfl Try.func50 (body_some (by kernel_rfl)) (Nat.le_of_ble_eq_true (by kernel_rfl)) ((cloneC.run_eq  m x0 x1).trans h)

/-! ### slices.Clone(()triage/api.Pair,triage/api.Pair) -/
abbrev clone.ps : List AK := [.d false (.sl TPair)]
def clone.pre : ElA clone.ps → Bool := fun (x : (List (El TPair)) × Unit) => fits (.sl TPair) (x.1) && (true)
def clone.res : ElA clone.ps → IV := fun (x : (List (El TPair)) × Unit) => (fun l => .c (.sl TPair l)) x.1
def clone.sp : ISpec := spOf clone.ps clone.pre clone.res
abbrev clone.OK : Prop := SpecOK Try.prog 50 clone.sp
theorem clone.mkR (H : ∀ (x0 : (List (El TPair))), clone.pre (x0, ()) = true → VE.Returns Try.prog 50 (ivA clone.ps (x0, ())) (clone.res (x0, ()))) : SpecOK Try.prog 50 clone.sp :=
  specOf_ret Try.func50 (by kernel_rfl) (by kernel_rfl) fun (x : (List (El TPair)) × Unit) hx => H (x.1) hx

/-! ### triage/host.Copy -/
abbrev copy.ps : List AK := [.d true THost]
def copy.pre : ElA copy.ps → Bool := fun (x : (El THost) × Unit) => fits THost (x.1) && (true)
def copy.res : ElA copy.ps → IV := fun (x : (El THost) × Unit) => (fun h => mkIV true (enc THost h)) x.1
def copy.sp : ISpec := spOf copy.ps copy.pre copy.res
abbrev copy.OK : Prop := SpecOK Try.prog 35 copy.sp
noncomputable def copy.body : Code := bodyOf Try.f35
noncomputable def copy.rs : List ResultVar := Try.f35.results.toList
def copy.live : List (Nat × Live) := []
noncomputable def copy.specs  : List (Nat × (List Bool × ISpec)) := [(50, ([], clone.sp))]
noncomputable def copy.ospecs  : List (Nat × OS) := []
noncomputable def copy.cfg  : Cfg := ⟨lkp tab, lkp (copy.specs ), lkp copy.live, ⟨lkp (copy.ospecs ), [], none, false, []⟩⟩
noncomputable def copy.go  (m : Nat) (x0 : (El THost)) : R := run (copy.cfg ) 8 copy.rs m [.code copy.body] (enter (ivA copy.ps (x0, ())))
theorem copy.start  (m : Nat) (x0 : (El THost)) : copy.go  (m + 1) x0 =
  test (clone.pre (x0.2.2.2.2.2, Unit.unit)) (
   some ((.agg [(.v (.int .i64 x0.1)), (.v (.string x0.2.1)), (.v (.int .i64 x0.2.2.1)), (.v (.string x0.2.2.2.1)), (.v (.int .i64 x0.2.2.2.2.1)), (.sl TPair x0.2.2.2.2.2)]), [])) := by kernel_rfl
theorem copy.run_eq  (m : Nat) (x0 : (El THost)) : run (copy.cfg ) Try.f35.ntmps Try.f35.results.toList m [.code (bodyOf Try.f35)] (enter (ivA copy.ps (x0, ()))) = copy.go  m x0 := by kernel_rfl
theorem copy.ret  (hs : SpecsOK Try.prog (copy.specs ))  (x0 : (El THost)) {m : Nat} {r : IV} (h : copy.go  m x0 = some (r, [])) : VE.Returns Try.prog 35 (ivA copy.ps (x0, ())) r :=
  returns_of_run (cfg := copy.cfg ) (cfgOK_of mixed tab_ok hs .nil) rfl Try.func35 (body_some (by kernel_rfl)) (Nat.le_of_ble_eq_true (by kernel_rfl)) ((copy.run_eq  m x0).trans h)
abbrev copy.Law : Prop := ∀ (x0 : (El THost)), copy.pre (x0, ()) = true → VE.Returns Try.prog 35 (ivA copy.ps (x0, ())) (copy.res (x0, ()))
theorem copy.mkR (H : ∀ (x0 : (El THost)), copy.pre (x0, ()) = true → VE.Returns Try.prog 35 (ivA copy.ps (x0, ())) (copy.res (x0, ()))) : SpecOK Try.prog 35 copy.sp :=
  specOf_ret Try.func35 (by kernel_rfl) (by kernel_rfl) fun (x : (El THost) × Unit) hx => H (x.1) hx
theorem copy.mk  (hs : SpecsOK Try.prog (copy.specs ))  (H : ∀ (x0 : (El THost)), copy.pre (x0, ()) = true → ∃ m, copy.go  m x0 = some (copy.res (x0, ()), [])) : SpecOK Try.prog 35 copy.sp :=
  copy.mkR fun x0 hx => (H x0 hx).elim fun _ hm => copy.ret  hs  x0 hm

/-! ### triage/triageref1.CopyHost -/
abbrev copyR.ps : List AK := [.d true THost]
def copyR.pre : ElA copyR.ps → Bool := fun (x : (El THost) × Unit) => fits THost (x.1) && (true)
def copyR.res : ElA copyR.ps → IV := fun (x : (El THost) × Unit) => (fun h => mkIV true (enc THost h)) x.1
def copyR.sp : ISpec := spOf copyR.ps copyR.pre copyR.res
abbrev copyR.OK : Prop := SpecOK Try.prog 46 copyR.sp
noncomputable def copyR.body : Code := bodyOf Try.f46
noncomputable def copyR.rs : List ResultVar := Try.f46.results.toList
def copyR.live : List (Nat × Live) := []
noncomputable def copyR.specs  : List (Nat × (List Bool × ISpec)) := []
noncomputable def copyR.ospecs  : List (Nat × OS) := []
noncomputable def copyR.cfg  : Cfg := ⟨lkp tab, lkp (copyR.specs ), lkp copyR.live, ⟨lkp (copyR.ospecs ), [], none, false, []⟩⟩
noncomputable def copyR.go  (m : Nat) (x0 : (El THost)) : R := run (copyR.cfg ) 8 copyR.rs m [.code copyR.body] (enter (ivA copyR.ps (x0, ())))
theorem copyR.start  (m : Nat) (x0 : (El THost)) : copyR.go  (m + 1) x0 =
  test (decide ((List.length x0.2.2.2.2.2) ≤ (lim 32))) (
   some ((.agg [(.v (.int .i64 x0.1)), (.v (.string x0.2.1)), (.v (.int .i64 x0.2.2.1)), (.v (.string x0.2.2.2.1)), (.v (.int .i64 x0.2.2.2.2.1)), (.sl TPair x0.2.2.2.2.2)]), [])) := by kernel_rfl
theorem copyR.run_eq  (m : Nat) (x0 : (El THost)) : run (copyR.cfg ) Try.f46.ntmps Try.f46.results.toList m [.code (bodyOf Try.f46)] (enter (ivA copyR.ps (x0, ()))) = copyR.go  m x0 := by kernel_rfl
theorem copyR.ret  (hs : SpecsOK Try.prog (copyR.specs ))  (x0 : (El THost)) {m : Nat} {r : IV} (h : copyR.go  m x0 = some (r, [])) : VE.Returns Try.prog 46 (ivA copyR.ps (x0, ())) r :=
  returns_of_run (cfg := copyR.cfg ) (cfgOK_of mixed tab_ok hs .nil) rfl Try.func46 (body_some (by kernel_rfl)) (Nat.le_of_ble_eq_true (by kernel_rfl)) ((copyR.run_eq  m x0).trans h)
abbrev copyR.Law : Prop := ∀ (x0 : (El THost)), copyR.pre (x0, ()) = true → VE.Returns Try.prog 46 (ivA copyR.ps (x0, ())) (copyR.res (x0, ()))
theorem copyR.mkR (H : ∀ (x0 : (El THost)), copyR.pre (x0, ()) = true → VE.Returns Try.prog 46 (ivA copyR.ps (x0, ())) (copyR.res (x0, ()))) : SpecOK Try.prog 46 copyR.sp :=
  specOf_ret Try.func46 (by kernel_rfl) (by kernel_rfl) fun (x : (El THost) × Unit) hx => H (x.1) hx
theorem copyR.mk  (hs : SpecsOK Try.prog (copyR.specs ))  (H : ∀ (x0 : (El THost)), copyR.pre (x0, ()) = true → ∃ m, copyR.go  m x0 = some (copyR.res (x0, ()), [])) : SpecOK Try.prog 46 copyR.sp :=
  copyR.mkR fun x0 hx => (H x0 hx).elim fun _ hm => copyR.ret  hs  x0 hm

/-! ### triage/triagelaw7.Light -/
abbrev light.ps : List AK := [.d true THost]
def light.pre : ElA light.ps → Bool := fun (x : (El THost) × Unit) => fits THost (x.1) && (true)
def light.res : ElA light.ps → IV := fun (x : (El THost) × Unit) => (fun h => vi .i64 (lightI h)) x.1
def light.sp : ISpec := spOf light.ps light.pre light.res
abbrev light.OK : Prop := SpecOK Try.prog 14 light.sp
noncomputable def light.body : Code := bodyOf Try.f14
noncomputable def light.rs : List ResultVar := Try.f14.results.toList
def light.live : List (Nat × Live) := [(3, ⟨[(3, .plain), (14, .sl TPair), (15, .plain), (16, .plain)], []⟩)]
noncomputable def light.specs  : List (Nat × (List Bool × ISpec)) := []
noncomputable def light.ospecs  : List (Nat × OS) := []
noncomputable def light.cfg  : Cfg := ⟨lkp tab, lkp (light.specs ), lkp light.live, ⟨lkp (light.ospecs ), [], none, false, []⟩⟩
noncomputable def light.l1  (m : Nat) (x0 : Int) (x1 : List (El TPair)) (x2 : Int) (x3 : Int) : R := run (light.cfg ) 33 light.rs m ((todoR 3 light.body []).getD []) ⟨ofList (.c .junk) [(3, (.c (.v (.int .i64 x0)))), (14, (.c (.sl TPair x1))), (15, (.c (.v (.int .i64 x2)))), (16, (.c (.v (.int .i64 x3))))], ofList none [], ofList false []⟩
noncomputable def light.go  (m : Nat) (x0 : (El THost)) : R := run (light.cfg ) 33 light.rs m [.code light.body] (enter (ivA light.ps (x0, ())))
theorem light.start  (m : Nat) (x0 : (El THost)) : light.go  (m + 1) x0 =
  light.l1  m (IntKind.i64.wrap (((ByteArray.size x0.2.1) : Int) + ((ByteArray.size x0.2.2.2.1) : Int))) x0.2.2.2.2.2 ((List.length x0.2.2.2.2.2) : Int) (0 : Int) := by kernel_rfl
theorem light.s1  (m : Nat) (x0 : Int) (x1 : List (El TPair)) (x2 : Int) (x3 : Int) : light.l1  (m + 1) x0 x1 x2 x3 =
  cond (decide (x3 < x2)) (
   test (decide ((0 : Int) ≤ x3)) (
    test (decide (x3 < ((List.length x1) : Int))) (
     light.l1  m (IntKind.i64.wrap (x0 + (IntKind.i64.wrap ((IntKind.i64.wrap ((1 : Int) + ((ByteArray.size ((rdEl TPair x1 (Int.toNat x3))).1) : Int))) + ((ByteArray.size ((rdEl TPair x1 (Int.toNat x3))).2) : Int))))) x1 x2 (IntKind.i64.wrap (x3 + (1 : Int)))))) (
   cond (decide (x0 > (600 : Int))) (
    some ((.c (.v (.int .i64 (1 : Int)))), [])) (
    some ((.c (.v (.int .i64 (0 : Int)))), []))) := by kernel_rfl
theorem light.run_eq  (m : Nat) (x0 : (El THost)) : run (light.cfg ) Try.f14.ntmps Try.f14.results.toList m [.code (bodyOf Try.f14)] (enter (ivA light.ps (x0, ()))) = light.go  m x0 := by kernel_rfl
theorem light.ret  (hs : SpecsOK Try.prog (light.specs ))  (x0 : (El THost)) {m : Nat} {r : IV} (h : light.go  m x0 = some (r, [])) : VE.Returns Try.prog 14 (ivA light.ps (x0, ())) r :=
  returns_of_run (cfg := light.cfg ) (cfgOK_of mixed tab_ok hs .nil) rfl Try.func14 (body_some (by kernel_rfl)) (Nat.le_of_ble_eq_true (by kernel_rfl)) ((light.run_eq  m x0).trans h)
abbrev light.Law : Prop := ∀ (x0 : (El THost)), light.pre (x0, ()) = true → VE.Returns Try.prog 14 (ivA light.ps (x0, ())) (light.res (x0, ()))
theorem light.mkR (H : ∀ (x0 : (El THost)), light.pre (x0, ()) = true → VE.Returns Try.prog 14 (ivA light.ps (x0, ())) (light.res (x0, ()))) : SpecOK Try.prog 14 light.sp :=
  specOf_ret Try.func14 (by kernel_rfl) (by kernel_rfl) fun (x : (El THost) × Unit) hx => H (x.1) hx
theorem light.mk  (hs : SpecsOK Try.prog (light.specs ))  (H : ∀ (x0 : (El THost)), light.pre (x0, ()) = true → ∃ m, light.go  m x0 = some (light.res (x0, ()), [])) : SpecOK Try.prog 14 light.sp :=
  light.mkR fun x0 hx => (H x0 hx).elim fun _ hm => light.ret  hs  x0 hm

end Go.Proofs.Ytdoilggfajngiaa
