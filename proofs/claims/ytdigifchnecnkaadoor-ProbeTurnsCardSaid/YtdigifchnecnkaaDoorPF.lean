/-
  Steps of the bodies, from checkpoint to checkpoint (printed by wip/VE/mk2.py).
-/
import Derived.Test.YtdigifchnecnkaaDoorT
import Derived.Test.YtdigifchnecnkaaDoorPA
namespace Go.Proofs.YtdigifchnecnkaaDoor
open Go VE

/-! ### triage/lines.Name -/
abbrev word.ps : List AK := [.d false .str]
def word.pre : ElA word.ps → Bool := fun (x : ByteArray × Unit) => fits .str (x.1) && (true)
noncomputable def word.res : ElA word.ps → IV := fun (x : ByteArray × Unit) => (fun s => vb (wordB s)) x.1
noncomputable def word.sp : ISpec := spOf word.ps word.pre word.res
abbrev word.OK : Prop := SpecOK Tryd.prog 29 word.sp
noncomputable def word.body : Code := bodyOf Tryd.f29
noncomputable def word.rs : List ResultVar := Tryd.f29.results.toList
def word.live : List (Nat × Live) := [(2, ⟨[(0, .plain), (6, .plain), (7, .plain)], []⟩)]
noncomputable def word.specs  : List (Nat × (List Bool × ISpec)) := []
noncomputable def word.ospecs  : List (Nat × OS) := []
noncomputable def word.cfg  : Cfg := ⟨lkp tab, lkp (word.specs ), lkp word.live, ⟨lkp (word.ospecs ), [], none, false, []⟩⟩
noncomputable def word.l1  (m : Nat) (x0 : ByteArray) (x1 : Int) (x2 : Int) : R := run (word.cfg ) 48 word.rs m ((todoR 2 word.body []).getD []) ⟨ofList (.c .junk) [(0, (.c (.v (.string x0)))), (6, (.c (.v (.int .i64 x1)))), (7, (.c (.v (.int .i64 x2))))], ofList none [], ofList false []⟩
noncomputable def word.go  (m : Nat) (x0 : ByteArray) : R := run (word.cfg ) 48 word.rs m [.code word.body] (enter (ivA word.ps (x0, ())))
theorem word.start  (m : Nat) (x0 : ByteArray) : word.go  (m + 1) x0 =
  word.l1  m x0 ((ByteArray.size x0) : Int) (0 : Int) := by kernel_rfl
theorem word.s1  (m : Nat) (x0 : ByteArray) (x1 : Int) (x2 : Int) : word.l1  (m + 1) x0 x1 x2 =
  cond (decide (x2 < x1)) (
   test (decide ((0 : Int) ≤ x2)) (
    test (decide (x2 < ((ByteArray.size x0) : Int))) (
     cond (decide ((byteAt x0 x2) < (97 : Int))) (
      cond (decide ((byteAt x0 x2) < (48 : Int))) (
       cond (bne (byteAt x0 x2) (45 : Int)) (
        cond (bne (byteAt x0 x2) (46 : Int)) (
         some ((.c (.v (.bool false))), [])) (
         word.l1  m x0 x1 (IntKind.i64.wrap (x2 + (1 : Int))))) (
        word.l1  m x0 x1 (IntKind.i64.wrap (x2 + (1 : Int))))) (
       cond (decide ((byteAt x0 x2) > (57 : Int))) (
        cond (bne (byteAt x0 x2) (45 : Int)) (
         cond (bne (byteAt x0 x2) (46 : Int)) (
          some ((.c (.v (.bool false))), [])) (
          word.l1  m x0 x1 (IntKind.i64.wrap (x2 + (1 : Int))))) (
         word.l1  m x0 x1 (IntKind.i64.wrap (x2 + (1 : Int))))) (
        word.l1  m x0 x1 (IntKind.i64.wrap (x2 + (1 : Int)))))) (
      cond (decide ((byteAt x0 x2) > (122 : Int))) (
       cond (decide ((byteAt x0 x2) < (48 : Int))) (
        cond (bne (byteAt x0 x2) (45 : Int)) (
         cond (bne (byteAt x0 x2) (46 : Int)) (
          some ((.c (.v (.bool false))), [])) (
          word.l1  m x0 x1 (IntKind.i64.wrap (x2 + (1 : Int))))) (
         word.l1  m x0 x1 (IntKind.i64.wrap (x2 + (1 : Int))))) (
        cond (decide ((byteAt x0 x2) > (57 : Int))) (
         cond (bne (byteAt x0 x2) (45 : Int)) (
          cond (bne (byteAt x0 x2) (46 : Int)) (
           some ((.c (.v (.bool false))), [])) (
           word.l1  m x0 x1 (IntKind.i64.wrap (x2 + (1 : Int))))) (
          word.l1  m x0 x1 (IntKind.i64.wrap (x2 + (1 : Int))))) (
         word.l1  m x0 x1 (IntKind.i64.wrap (x2 + (1 : Int)))))) (
       word.l1  m x0 x1 (IntKind.i64.wrap (x2 + (1 : Int)))))))) (
   cond (decide (((ByteArray.size x0) : Int) ≥ (1 : Int))) (
    cond (decide (((ByteArray.size x0) : Int) ≤ (12 : Int))) (
     some ((.c (.v (.bool (Bool.not ((ByteArray.toList x0) == (ByteArray.toList (⟨#[45]⟩ : ByteArray))))))), [])) (
     some ((.c (.v (.bool false))), []))) (
    some ((.c (.v (.bool false))), []))) := by kernel_rfl
theorem word.run_eq  (m : Nat) (x0 : ByteArray) : run (word.cfg ) Tryd.f29.ntmps Tryd.f29.results.toList m [.code (bodyOf Tryd.f29)] (enter (ivA word.ps (x0, ()))) = word.go  m x0 := by kernel_rfl
theorem word.ret  (hs : SpecsOK Tryd.prog (word.specs ))  (x0 : ByteArray) {m : Nat} {r : IV} (h : word.go  m x0 = some (r, [])) : VE.Returns Tryd.prog 29 (ivA word.ps (x0, ())) r :=
  returns_of_run (cfg := word.cfg ) (cfgOK_of mixed tab_ok hs .nil) rfl Tryd.func29 (body_some (by kernel_rfl)) (Nat.le_of_ble_eq_true (by kernel_rfl)) ((word.run_eq  m x0).trans h)
abbrev word.Law : Prop := ∀ (x0 : ByteArray), word.pre (x0, ()) = true → VE.Returns Tryd.prog 29 (ivA word.ps (x0, ())) (word.res (x0, ()))
theorem word.mkR (H : ∀ (x0 : ByteArray), word.pre (x0, ()) = true → VE.Returns Tryd.prog 29 (ivA word.ps (x0, ())) (word.res (x0, ()))) : SpecOK Tryd.prog 29 word.sp :=
  specOf_ret Tryd.func29 (by kernel_rfl) (by kernel_rfl) fun (x : ByteArray × Unit) hx => H (x.1) hx
theorem word.mk  (hs : SpecsOK Tryd.prog (word.specs ))  (H : ∀ (x0 : ByteArray), word.pre (x0, ()) = true → ∃ m, word.go  m x0 = some (word.res (x0, ()), [])) : SpecOK Tryd.prog 29 word.sp :=
  word.mkR fun x0 hx => (H x0 hx).elim fun _ hm => word.ret  hs  x0 hm

/-! ### triage/triageref1.Word -/
abbrev wordR.ps : List AK := [.d false .str]
def wordR.pre : ElA wordR.ps → Bool := fun (x : ByteArray × Unit) => fits .str (x.1) && (true)
noncomputable def wordR.res : ElA wordR.ps → IV := fun (x : ByteArray × Unit) => (fun s => vb (wordB s)) x.1
noncomputable def wordR.sp : ISpec := spOf wordR.ps wordR.pre wordR.res
abbrev wordR.OK : Prop := SpecOK Tryd.prog 16 wordR.sp
noncomputable def wordR.body : Code := bodyOf Tryd.f16
noncomputable def wordR.rs : List ResultVar := Tryd.f16.results.toList
def wordR.live : List (Nat × Live) := [(4, ⟨[(0, .plain), (18, .plain), (19, .plain)], []⟩)]
noncomputable def wordR.specs  : List (Nat × (List Bool × ISpec)) := []
noncomputable def wordR.ospecs  : List (Nat × OS) := []
noncomputable def wordR.cfg  : Cfg := ⟨lkp tab, lkp (wordR.specs ), lkp wordR.live, ⟨lkp (wordR.ospecs ), [], none, false, []⟩⟩
noncomputable def wordR.l1  (m : Nat) (x0 : ByteArray) (x1 : Int) (x2 : Int) : R := run (wordR.cfg ) 48 wordR.rs m ((todoR 4 wordR.body []).getD []) ⟨ofList (.c .junk) [(0, (.c (.v (.string x0)))), (18, (.c (.v (.int .i64 x1)))), (19, (.c (.v (.int .i64 x2))))], ofList none [], ofList false []⟩
noncomputable def wordR.go  (m : Nat) (x0 : ByteArray) : R := run (wordR.cfg ) 48 wordR.rs m [.code wordR.body] (enter (ivA wordR.ps (x0, ())))
theorem wordR.start  (m : Nat) (x0 : ByteArray) : wordR.go  (m + 1) x0 =
  cond (decide (((ByteArray.size x0) : Int) < (1 : Int))) (
   some ((.c (.v (.bool false))), [])) (
   cond (decide (((ByteArray.size x0) : Int) > (12 : Int))) (
    some ((.c (.v (.bool false))), [])) (
    cond ((ByteArray.toList x0) == (ByteArray.toList (⟨#[45]⟩ : ByteArray))) (
     some ((.c (.v (.bool false))), [])) (
     wordR.l1  m x0 ((ByteArray.size x0) : Int) (0 : Int)))) := by kernel_rfl
theorem wordR.s1  (m : Nat) (x0 : ByteArray) (x1 : Int) (x2 : Int) : wordR.l1  (m + 1) x0 x1 x2 =
  cond (decide (x2 < x1)) (
   test (decide ((0 : Int) ≤ x2)) (
    test (decide (x2 < ((ByteArray.size x0) : Int))) (
     cond (decide ((byteAt x0 x2) < (97 : Int))) (
      cond (decide ((byteAt x0 x2) < (48 : Int))) (
       cond (bne (byteAt x0 x2) (45 : Int)) (
        cond (bne (byteAt x0 x2) (46 : Int)) (
         some ((.c (.v (.bool false))), [])) (
         wordR.l1  m x0 x1 (IntKind.i64.wrap (x2 + (1 : Int))))) (
        wordR.l1  m x0 x1 (IntKind.i64.wrap (x2 + (1 : Int))))) (
       cond (decide ((byteAt x0 x2) > (57 : Int))) (
        cond (bne (byteAt x0 x2) (45 : Int)) (
         cond (bne (byteAt x0 x2) (46 : Int)) (
          some ((.c (.v (.bool false))), [])) (
          wordR.l1  m x0 x1 (IntKind.i64.wrap (x2 + (1 : Int))))) (
         wordR.l1  m x0 x1 (IntKind.i64.wrap (x2 + (1 : Int))))) (
        wordR.l1  m x0 x1 (IntKind.i64.wrap (x2 + (1 : Int)))))) (
      cond (decide ((byteAt x0 x2) > (122 : Int))) (
       cond (decide ((byteAt x0 x2) < (48 : Int))) (
        cond (bne (byteAt x0 x2) (45 : Int)) (
         cond (bne (byteAt x0 x2) (46 : Int)) (
          some ((.c (.v (.bool false))), [])) (
          wordR.l1  m x0 x1 (IntKind.i64.wrap (x2 + (1 : Int))))) (
         wordR.l1  m x0 x1 (IntKind.i64.wrap (x2 + (1 : Int))))) (
        cond (decide ((byteAt x0 x2) > (57 : Int))) (
         cond (bne (byteAt x0 x2) (45 : Int)) (
          cond (bne (byteAt x0 x2) (46 : Int)) (
           some ((.c (.v (.bool false))), [])) (
           wordR.l1  m x0 x1 (IntKind.i64.wrap (x2 + (1 : Int))))) (
          wordR.l1  m x0 x1 (IntKind.i64.wrap (x2 + (1 : Int))))) (
         wordR.l1  m x0 x1 (IntKind.i64.wrap (x2 + (1 : Int)))))) (
       wordR.l1  m x0 x1 (IntKind.i64.wrap (x2 + (1 : Int)))))))) (
   some ((.c (.v (.bool true))), [])) := by kernel_rfl
theorem wordR.run_eq  (m : Nat) (x0 : ByteArray) : run (wordR.cfg ) Tryd.f16.ntmps Tryd.f16.results.toList m [.code (bodyOf Tryd.f16)] (enter (ivA wordR.ps (x0, ()))) = wordR.go  m x0 := by kernel_rfl
theorem wordR.ret  (hs : SpecsOK Tryd.prog (wordR.specs ))  (x0 : ByteArray) {m : Nat} {r : IV} (h : wordR.go  m x0 = some (r, [])) : VE.Returns Tryd.prog 16 (ivA wordR.ps (x0, ())) r :=
  returns_of_run (cfg := wordR.cfg ) (cfgOK_of mixed tab_ok hs .nil) rfl Tryd.func16 (body_some (by kernel_rfl)) (Nat.le_of_ble_eq_true (by kernel_rfl)) ((wordR.run_eq  m x0).trans h)
abbrev wordR.Law : Prop := ∀ (x0 : ByteArray), wordR.pre (x0, ()) = true → VE.Returns Tryd.prog 16 (ivA wordR.ps (x0, ())) (wordR.res (x0, ()))
theorem wordR.mkR (H : ∀ (x0 : ByteArray), wordR.pre (x0, ()) = true → VE.Returns Tryd.prog 16 (ivA wordR.ps (x0, ())) (wordR.res (x0, ()))) : SpecOK Tryd.prog 16 wordR.sp :=
  specOf_ret Tryd.func16 (by kernel_rfl) (by kernel_rfl) fun (x : ByteArray × Unit) hx => H (x.1) hx
theorem wordR.mk  (hs : SpecsOK Tryd.prog (wordR.specs ))  (H : ∀ (x0 : ByteArray), wordR.pre (x0, ()) = true → ∃ m, wordR.go  m x0 = some (wordR.res (x0, ()), [])) : SpecOK Tryd.prog 16 wordR.sp :=
  wordR.mkR fun x0 hx => (H x0 hx).elim fun _ hm => wordR.ret  hs  x0 hm

/-! ### triage/config.numbers -/
abbrev numbers.ps : List AK := [.q TConfig]
def numbers.pre : ElA numbers.ps → Bool := fun (x : (El TConfig) × Unit) => fits TConfig (x.1) && (true)
noncomputable def numbers.rv : ElA numbers.ps → List RV := fun (x : (El TConfig) × Unit) => [.m 62 TNum ((fun c => firstL c) x.1), .m 62 TNum ((fun c => secondL c) x.1)]
noncomputable def numbers.res : ElA numbers.ps → IV := fun x => oneOrTup (rvIVs 0 (numbers.rv x))
noncomputable def numbers.back : ElA numbers.ps → List (Nat × Box) := fun (x : (El TConfig) × Unit) => rvBxs 0 (numbers.rv x)
noncomputable def numbers.sp : OSpec := spO numbers.ps numbers.pre numbers.res numbers.back
abbrev numbers.OK : Prop := SpecOKO Tryd.prog 28 numbers.sp
noncomputable def numbers.body : Code := bodyOf Tryd.f28
noncomputable def numbers.rs : List ResultVar := Tryd.f28.results.toList
def numbers.live : List (Nat × Live) := []
noncomputable def numbers.specs  : List (Nat × (List Bool × ISpec)) := []
noncomputable def numbers.ospecs  : List (Nat × OS) := []
noncomputable def numbers.cfg  : Cfg := ⟨lkp tab, lkp (numbers.specs ), lkp numbers.live, ⟨lkp (numbers.ospecs ), oids 0 numbers.ps, some ([.arr 62 TNum, .arr 62 TNum], []), false, []⟩⟩
noncomputable def numbers.go  (m : Nat) (x0 : (El TConfig)) : R := run (numbers.cfg ) 82 numbers.rs m [.code numbers.body] (enterO (ivAO 0 numbers.ps (x0, ())) (bxAO 0 numbers.ps (x0, ())))
theorem numbers.start  (m : Nat) (x0 : (El TConfig)) : numbers.go  (m + 1) x0 =
  some ((.tup [(.c (.sref 115326)), (.c (.sref 115454))]), [(115326, (.arr 62 TNum (((⟨#[105, 110, 116, 101, 114, 118, 97, 108]⟩ : ByteArray), (x0.1, ((10 : Int), (10000 : Int)))) :: (((⟨#[116, 105, 109, 101, 111, 117, 116]⟩ : ByteArray), (x0.2.1, ((1 : Int), (10000 : Int)))) :: (((⟨#[106, 105, 116, 116, 101, 114]⟩ : ByteArray), (x0.2.2.1, ((0 : Int), (1000 : Int)))) :: (((⟨#[114, 105, 115, 101]⟩ : ByteArray), (x0.2.2.2.1, ((1 : Int), (10 : Int)))) :: (((⟨#[102, 97, 108, 108]⟩ : ByteArray), (x0.2.2.2.2.1, ((1 : Int), (10 : Int)))) :: (((⟨#[112, 97, 110, 105, 99]⟩ : ByteArray), (x0.2.2.2.2.2.1, ((0 : Int), (100 : Int)))) :: (((⟨#[111, 118, 101, 114]⟩ : ByteArray), (x0.2.2.2.2.2.2.1, ((100 : Int), (1000 : Int)))) :: (((⟨#[101, 114, 114, 111, 114, 115]⟩ : ByteArray), (x0.2.2.2.2.2.2.2.1, ((0 : Int), (100 : Int)))) :: (((⟨#[115, 119, 101, 101, 112]⟩ : ByteArray), (x0.2.2.2.2.2.2.2.2.1, ((10 : Int), (10000 : Int)))) :: (((⟨#[104, 111, 115, 116, 115]⟩ : ByteArray), (x0.2.2.2.2.2.2.2.2.2.1, ((1 : Int), (64 : Int)))) :: (((⟨#[114, 101, 113, 117, 101, 115, 116, 115]⟩ : ByteArray), (x0.2.2.2.2.2.2.2.2.2.2.1, ((1 : Int), (1000 : Int)))) :: (((⟨#[102, 97, 99, 116, 111, 114]⟩ : ByteArray), (x0.2.2.2.2.2.2.2.2.2.2.2.1, ((0 : Int), (10000 : Int)))) :: (((⟨#[102, 97, 105, 108, 115]⟩ : ByteArray), (x0.2.2.2.2.2.2.2.2.2.2.2.2.1, ((0 : Int), (100 : Int)))) :: (((⟨#[98, 97, 115, 101]⟩ : ByteArray), (x0.2.2.2.2.2.2.2.2.2.2.2.2.2.1, ((1 : Int), (10000 : Int)))) :: (((⟨#[101, 106, 101, 99, 116]⟩ : ByteArray), (x0.2.2.2.2.2.2.2.2.2.2.2.2.2.2.1, ((0 : Int), (100 : Int)))) :: ([] : List (El TNum))))))))))))))))) false)), (115454, (.arr 62 TNum (((⟨#[115, 108, 111, 119]⟩ : ByteArray), (x0.2.2.2.2.2.2.2.2.2.2.2.2.2.2.2.2.1, ((0 : Int), (10000 : Int)))) :: (((⟨#[100, 114, 97, 105, 110]⟩ : ByteArray), (x0.2.2.2.2.2.2.2.2.2.2.2.2.2.2.2.2.2.1, ((1 : Int), (10000 : Int)))) :: (((⟨#[104, 111, 115, 116, 108, 105, 109, 105, 116]⟩ : ByteArray), (x0.2.2.2.2.2.2.2.2.2.2.2.2.2.2.2.2.2.2.1, ((1 : Int), (1000 : Int)))) :: (((⟨#[112, 111, 111, 108, 108, 105, 109, 105, 116]⟩ : ByteArray), (x0.2.2.2.2.2.2.2.2.2.2.2.2.2.2.2.2.2.2.2.1, ((1 : Int), (10000 : Int)))) :: ([] : List (El TNum)))))) false))]) := by kernel_rfl
theorem numbers.run_eq  (m : Nat) (x0 : (El TConfig)) : run (numbers.cfg ) Tryd.f28.ntmps Tryd.f28.results.toList m [.code (bodyOf Tryd.f28)] (enterO (ivAO 0 numbers.ps (x0, ())) (bxAO 0 numbers.ps (x0, ()))) = numbers.go  m x0 := by kernel_rfl
theorem numbers.ret  (hs : SpecsOK Tryd.prog (numbers.specs ))  (x0 : (El TConfig)) {m : Nat} {r : IV} {b : List (Nat × Box)} (h : numbers.go  m x0 = some (r, b)) : VE.ReturnsO Tryd.prog 28 (ivAO 0 numbers.ps (x0, ())) (bxAO 0 numbers.ps (x0, ())) r b :=
  returnsO_of_run (cfg := numbers.cfg ) (cfgOK_of mixed tab_ok hs .nil) rfl Tryd.func28 (body_some (by kernel_rfl)) (Nat.le_of_ble_eq_true (by kernel_rfl)) (fun _ _ _ h => oids_mem h) ((numbers.run_eq  m x0).trans h)
abbrev numbers.Law : Prop := ∀ (x0 : (El TConfig)), numbers.pre (x0, ()) = true → VE.ReturnsO Tryd.prog 28 (ivAO 0 numbers.ps (x0, ())) (bxAO 0 numbers.ps (x0, ())) (numbers.res (x0, ())) (numbers.back (x0, ()))
theorem numbers.mkR (H : ∀ (x0 : (El TConfig)), numbers.pre (x0, ()) = true → VE.ReturnsO Tryd.prog 28 (ivAO 0 numbers.ps (x0, ())) (bxAO 0 numbers.ps (x0, ())) (numbers.res (x0, ())) (numbers.back (x0, ()))) : SpecOKO Tryd.prog 28 numbers.sp :=
  specO_ret Tryd.func28 (by kernel_rfl) (by kernel_rfl) fun (x : (El TConfig) × Unit) hx => H (x.1) hx
theorem numbers.mk  (hs : SpecsOK Tryd.prog (numbers.specs ))  (H : ∀ (x0 : (El TConfig)), numbers.pre (x0, ()) = true → ∃ m, numbers.go  m x0 = some (numbers.res (x0, ()), numbers.back (x0, ()))) : SpecOKO Tryd.prog 28 numbers.sp :=
  numbers.mkR fun x0 hx => (H x0 hx).elim fun _ hm => numbers.ret  hs  x0 hm

/-! ### triage/config.May -/
abbrev cMay.ps : List AK := [.d true TConfig]
def cMay.pre : ElA cMay.ps → Bool := fun (x : (El TConfig) × Unit) => fits TConfig (x.1) && (true)
noncomputable def cMay.res : ElA cMay.ps → IV := fun (x : (El TConfig) × Unit) => (fun c => vb (mayC c)) x.1
noncomputable def cMay.sp : ISpec := spOf cMay.ps cMay.pre cMay.res
abbrev cMay.OK : Prop := SpecOK Tryd.prog 25 cMay.sp
noncomputable def cMay.body : Code := bodyOf Tryd.f25
noncomputable def cMay.rs : List ResultVar := Tryd.f25.results.toList
def cMay.live : List (Nat × Live) := [(3, ⟨[(1, .plain), (13, .sl TNum), (14, .plain), (15, .plain)], [(1, [])]⟩)]
noncomputable def cMay.specs  : List (Nat × (List Bool × ISpec)) := [(29, ([], word.sp))]
noncomputable def cMay.ospecs  : List (Nat × OS) := [(28, ⟨[], [true], numbers.sp⟩)]
noncomputable def cMay.cfg  : Cfg := ⟨lkp tab, lkp (cMay.specs ), lkp cMay.live, ⟨lkp (cMay.ospecs ), [], none, false, []⟩⟩
noncomputable def cMay.l1  (m : Nat) (x0 : List (El TNum)) (x1 : Int) (x2 : Int) (x3 : Int) (x4 : Int) (x5 : Int) (x6 : Int) (x7 : Int) (x8 : Int) (x9 : Int) (x10 : Int) (x11 : Int) (x12 : Int) (x13 : Int) (x14 : Int) (x15 : Int) (x16 : Int) (x17 : Int) (x18 : Bool) (x19 : Int) (x20 : Int) (x21 : Int) (x22 : Int) (x23 : Int) (x24 : ByteArray) (x25 : Bool) : R := run (cMay.cfg ) 54 cMay.rs m ((todoR 3 cMay.body []).getD []) ⟨ofList (.c .junk) [(1, (.c (.ref 1 0))), (13, (.c (.sl TNum x0))), (14, (.c (.v (.int .i64 x1)))), (15, (.c (.v (.int .i64 x2))))], ofList none [(1, some (.ice 23 [(.v (.int .i64 x3)), (.v (.int .i64 x4)), (.v (.int .i64 x5)), (.v (.int .i64 x6)), (.v (.int .i64 x7)), (.v (.int .i64 x8)), (.v (.int .i64 x9)), (.v (.int .i64 x10)), (.v (.int .i64 x11)), (.v (.int .i64 x12)), (.v (.int .i64 x13)), (.v (.int .i64 x14)), (.v (.int .i64 x15)), (.v (.int .i64 x16)), (.v (.int .i64 x17)), (.v (.bool x18)), (.v (.int .i64 x19)), (.v (.int .i64 x20)), (.v (.int .i64 x21)), (.v (.int .i64 x22)), (.v (.int .i64 x23)), (.v (.string x24)), (.v (.bool x25))]))], ofList false [(1, true)]⟩
noncomputable def cMay.go  (m : Nat) (x0 : (El TConfig)) : R := run (cMay.cfg ) 54 cMay.rs m [.code cMay.body] (enter (ivA cMay.ps (x0, ())))
theorem cMay.start  (m : Nat) (x0 : (El TConfig)) : cMay.go  (m + 1) x0 =
  test (numbers.pre (x0, Unit.unit)) (
   cMay.l1  m ((firstL x0) ++ (secondL x0)) ((List.length ((firstL x0) ++ (secondL x0))) : Int) (0 : Int) x0.1 x0.2.1 x0.2.2.1 x0.2.2.2.1 x0.2.2.2.2.1 x0.2.2.2.2.2.1 x0.2.2.2.2.2.2.1 x0.2.2.2.2.2.2.2.1 x0.2.2.2.2.2.2.2.2.1 x0.2.2.2.2.2.2.2.2.2.1 x0.2.2.2.2.2.2.2.2.2.2.1 x0.2.2.2.2.2.2.2.2.2.2.2.1 x0.2.2.2.2.2.2.2.2.2.2.2.2.1 x0.2.2.2.2.2.2.2.2.2.2.2.2.2.1 x0.2.2.2.2.2.2.2.2.2.2.2.2.2.2.1 x0.2.2.2.2.2.2.2.2.2.2.2.2.2.2.2.1 x0.2.2.2.2.2.2.2.2.2.2.2.2.2.2.2.2.1 x0.2.2.2.2.2.2.2.2.2.2.2.2.2.2.2.2.2.1 x0.2.2.2.2.2.2.2.2.2.2.2.2.2.2.2.2.2.2.1 x0.2.2.2.2.2.2.2.2.2.2.2.2.2.2.2.2.2.2.2.1 x0.2.2.2.2.2.2.2.2.2.2.2.2.2.2.2.2.2.2.2.2.1 x0.2.2.2.2.2.2.2.2.2.2.2.2.2.2.2.2.2.2.2.2.2.1 x0.2.2.2.2.2.2.2.2.2.2.2.2.2.2.2.2.2.2.2.2.2.2) := by kernel_rfl
theorem cMay.s1  (m : Nat) (x0 : List (El TNum)) (x1 : Int) (x2 : Int) (x3 : Int) (x4 : Int) (x5 : Int) (x6 : Int) (x7 : Int) (x8 : Int) (x9 : Int) (x10 : Int) (x11 : Int) (x12 : Int) (x13 : Int) (x14 : Int) (x15 : Int) (x16 : Int) (x17 : Int) (x18 : Bool) (x19 : Int) (x20 : Int) (x21 : Int) (x22 : Int) (x23 : Int) (x24 : ByteArray) (x25 : Bool) : cMay.l1  (m + 1) x0 x1 x2 x3 x4 x5 x6 x7 x8 x9 x10 x11 x12 x13 x14 x15 x16 x17 x18 x19 x20 x21 x22 x23 x24 x25 =
  cond (decide (x2 < x1)) (
   test (decide ((0 : Int) ≤ x2)) (
    test (decide (x2 < ((List.length x0) : Int))) (
     cond (decide ((((rdEl TNum x0 (Int.toNat x2))).2).1 < ((((rdEl TNum x0 (Int.toNat x2))).2).2).1)) (
      some ((.c (.v (.bool false))), [])) (
      cond (decide ((((rdEl TNum x0 (Int.toNat x2))).2).1 > ((((rdEl TNum x0 (Int.toNat x2))).2).2).2)) (
       some ((.c (.v (.bool false))), [])) (
       cMay.l1  m x0 x1 (IntKind.i64.wrap (x2 + (1 : Int))) x3 x4 x5 x6 x7 x8 x9 x10 x11 x12 x13 x14 x15 x16 x17 x18 x19 x20 x21 x22 x23 x24 x25))))) (
   cond (decide (x23 ≥ (1 : Int))) (
    cond (decide (x23 ≤ (3 : Int))) (
     cond ((ByteArray.toList x24) == (ByteArray.toList (⟨#[]⟩ : ByteArray))) (
      some ((.c (.v (.bool true))), [])) (
      test (word.pre (x24, Unit.unit)) (
       some ((.c (.v (.bool (wordB x24)))), [])))) (
     some ((.c (.v (.bool false))), []))) (
    some ((.c (.v (.bool false))), []))) := by kernel_rfl
theorem cMay.run_eq  (m : Nat) (x0 : (El TConfig)) : run (cMay.cfg ) Tryd.f25.ntmps Tryd.f25.results.toList m [.code (bodyOf Tryd.f25)] (enter (ivA cMay.ps (x0, ()))) = cMay.go  m x0 := by kernel_rfl
theorem cMay.ret  (hs : SpecsOK Tryd.prog (cMay.specs )) (ho : OSpecsOK Tryd.prog (cMay.ospecs )) (x0 : (El TConfig)) {m : Nat} {r : IV} (h : cMay.go  m x0 = some (r, [])) : VE.Returns Tryd.prog 25 (ivA cMay.ps (x0, ())) r :=
  returns_of_run (cfg := cMay.cfg ) (cfgOK_of mixed tab_ok hs ho) rfl Tryd.func25 (body_some (by kernel_rfl)) (Nat.le_of_ble_eq_true (by kernel_rfl)) ((cMay.run_eq  m x0).trans h)
abbrev cMay.Law : Prop := ∀ (x0 : (El TConfig)), cMay.pre (x0, ()) = true → VE.Returns Tryd.prog 25 (ivA cMay.ps (x0, ())) (cMay.res (x0, ()))
theorem cMay.mkR (H : ∀ (x0 : (El TConfig)), cMay.pre (x0, ()) = true → VE.Returns Tryd.prog 25 (ivA cMay.ps (x0, ())) (cMay.res (x0, ()))) : SpecOK Tryd.prog 25 cMay.sp :=
  specOf_ret Tryd.func25 (by kernel_rfl) (by kernel_rfl) fun (x : (El TConfig) × Unit) hx => H (x.1) hx
theorem cMay.mk  (hs : SpecsOK Tryd.prog (cMay.specs )) (ho : OSpecsOK Tryd.prog (cMay.ospecs )) (H : ∀ (x0 : (El TConfig)), cMay.pre (x0, ()) = true → ∃ m, cMay.go  m x0 = some (cMay.res (x0, ()), [])) : SpecOK Tryd.prog 25 cMay.sp :=
  cMay.mkR fun x0 hx => (H x0 hx).elim fun _ hm => cMay.ret  hs ho x0 hm

/-! ### triage/config.Default -/
abbrev cDef.ps : List AK := []
def cDef.pre : ElA cDef.ps → Bool := fun (x : Unit) => true
noncomputable def cDef.res : ElA cDef.ps → IV := fun (x : Unit) => (mkIV true (enc TConfig defC)) 
noncomputable def cDef.sp : ISpec := spOf cDef.ps cDef.pre cDef.res
abbrev cDef.OK : Prop := SpecOK Tryd.prog 17 cDef.sp
noncomputable def cDef.body : Code := bodyOf Tryd.f17
noncomputable def cDef.rs : List ResultVar := Tryd.f17.results.toList
def cDef.live : List (Nat × Live) := []
noncomputable def cDef.specs  : List (Nat × (List Bool × ISpec)) := []
noncomputable def cDef.ospecs  : List (Nat × OS) := []
noncomputable def cDef.cfg  : Cfg := ⟨lkp tab, lkp (cDef.specs ), lkp cDef.live, ⟨lkp (cDef.ospecs ), [], none, false, []⟩⟩
noncomputable def cDef.go  (m : Nat)  : R := run (cDef.cfg ) 2 cDef.rs m [.code cDef.body] (enter (ivA cDef.ps ()))
theorem cDef.start  (m : Nat)  : cDef.go  (m + 1)  =
  some ((.agg [(.v (.int .i64 (100 : Int))), (.v (.int .i64 (20 : Int))), (.v (.int .i64 (0 : Int))), (.v (.int .i64 (2 : Int))), (.v (.int .i64 (3 : Int))), (.v (.int .i64 (50 : Int))), (.v (.int .i64 (140 : Int))), (.v (.int .i64 (5 : Int))), (.v (.int .i64 (1000 : Int))), (.v (.int .i64 (5 : Int))), (.v (.int .i64 (100 : Int))), (.v (.int .i64 (1900 : Int))), (.v (.int .i64 (0 : Int))), (.v (.int .i64 (3000 : Int))), (.v (.int .i64 (10 : Int))), (.v (.bool true)), (.v (.int .i64 (0 : Int))), (.v (.int .i64 (5000 : Int))), (.v (.int .i64 (1000 : Int))), (.v (.int .i64 (10000 : Int))), (.v (.int .i64 (1 : Int))), (.v (.string (⟨#[]⟩ : ByteArray))), (.v (.bool false))]), []) := by kernel_rfl
theorem cDef.run_eq  (m : Nat)  : run (cDef.cfg ) Tryd.f17.ntmps Tryd.f17.results.toList m [.code (bodyOf Tryd.f17)] (enter (ivA cDef.ps ())) = cDef.go  m  := by kernel_rfl
theorem cDef.ret  (hs : SpecsOK Tryd.prog (cDef.specs ))   {m : Nat} {r : IV} (h : cDef.go  m  = some (r, [])) : VE.Returns Tryd.prog 17 (ivA cDef.ps ()) r :=
  returns_of_run (cfg := cDef.cfg ) (cfgOK_of mixed tab_ok hs .nil) rfl Tryd.func17 (body_some (by kernel_rfl)) (Nat.le_of_ble_eq_true (by kernel_rfl)) ((cDef.run_eq  m ).trans h)
abbrev cDef.Law : Prop := ∀ (_ : Unit), cDef.pre () = true → VE.Returns Tryd.prog 17 (ivA cDef.ps ()) (cDef.res ())
theorem cDef.mkR (H : ∀ (_ : Unit), cDef.pre () = true → VE.Returns Tryd.prog 17 (ivA cDef.ps ()) (cDef.res ())) : SpecOK Tryd.prog 17 cDef.sp :=
  specOf_ret Tryd.func17 (by kernel_rfl) (by kernel_rfl) fun (x : Unit) hx => H () hx
theorem cDef.mk  (hs : SpecsOK Tryd.prog (cDef.specs ))  (H : ∀ (_ : Unit), cDef.pre () = true → ∃ m, cDef.go  m  = some (cDef.res (), [])) : SpecOK Tryd.prog 17 cDef.sp :=
  cDef.mkR fun _ hx => (H () hx).elim fun _ hm => cDef.ret  hs   hm

/-! ### triage/triageref1.bit -/
abbrev bit.ps : List AK := [.d false .bool]
def bit.pre : ElA bit.ps → Bool := fun (x : Bool × Unit) => fits .bool (x.1) && (true)
noncomputable def bit.res : ElA bit.ps → IV := fun (x : Bool × Unit) => (fun b => vi .i64 (bitI b)) x.1
noncomputable def bit.sp : ISpec := spOf bit.ps bit.pre bit.res
abbrev bit.OK : Prop := SpecOK Tryd.prog 24 bit.sp
noncomputable def bit.body : Code := bodyOf Tryd.f24
noncomputable def bit.rs : List ResultVar := Tryd.f24.results.toList
def bit.live : List (Nat × Live) := []
noncomputable def bit.specs  : List (Nat × (List Bool × ISpec)) := []
noncomputable def bit.ospecs  : List (Nat × OS) := []
noncomputable def bit.cfg  : Cfg := ⟨lkp tab, lkp (bit.specs ), lkp bit.live, ⟨lkp (bit.ospecs ), [], none, false, []⟩⟩
noncomputable def bit.go  (m : Nat) (x0 : Bool) : R := run (bit.cfg ) 4 bit.rs m [.code bit.body] (enter (ivA bit.ps (x0, ())))
theorem bit.start  (m : Nat) (x0 : Bool) : bit.go  (m + 1) x0 =
  cond x0 (
   some ((.c (.v (.int .i64 (1 : Int)))), [])) (
   some ((.c (.v (.int .i64 (0 : Int)))), [])) := by kernel_rfl
theorem bit.run_eq  (m : Nat) (x0 : Bool) : run (bit.cfg ) Tryd.f24.ntmps Tryd.f24.results.toList m [.code (bodyOf Tryd.f24)] (enter (ivA bit.ps (x0, ()))) = bit.go  m x0 := by kernel_rfl
theorem bit.ret  (hs : SpecsOK Tryd.prog (bit.specs ))  (x0 : Bool) {m : Nat} {r : IV} (h : bit.go  m x0 = some (r, [])) : VE.Returns Tryd.prog 24 (ivA bit.ps (x0, ())) r :=
  returns_of_run (cfg := bit.cfg ) (cfgOK_of mixed tab_ok hs .nil) rfl Tryd.func24 (body_some (by kernel_rfl)) (Nat.le_of_ble_eq_true (by kernel_rfl)) ((bit.run_eq  m x0).trans h)
abbrev bit.Law : Prop := ∀ (x0 : Bool), bit.pre (x0, ()) = true → VE.Returns Tryd.prog 24 (ivA bit.ps (x0, ())) (bit.res (x0, ()))
theorem bit.mkR (H : ∀ (x0 : Bool), bit.pre (x0, ()) = true → VE.Returns Tryd.prog 24 (ivA bit.ps (x0, ())) (bit.res (x0, ()))) : SpecOK Tryd.prog 24 bit.sp :=
  specOf_ret Tryd.func24 (by kernel_rfl) (by kernel_rfl) fun (x : Bool × Unit) hx => H (x.1) hx
theorem bit.mk  (hs : SpecsOK Tryd.prog (bit.specs ))  (H : ∀ (x0 : Bool), bit.pre (x0, ()) = true → ∃ m, bit.go  m x0 = some (bit.res (x0, ()), [])) : SpecOK Tryd.prog 24 bit.sp :=
  bit.mkR fun x0 hx => (H x0 hx).elim fun _ hm => bit.ret  hs  x0 hm

/-! ### triage/triageref1.nums -/
abbrev numsR.ps : List AK := [.d true TConfig]
def numsR.pre : ElA numsR.ps → Bool := fun (x : (El TConfig) × Unit) => fits TConfig (x.1) && (true)
noncomputable def numsR.res : ElA numsR.ps → IV := fun (x : (El TConfig) × Unit) => (fun c => .c (.sl (.int .i64) (numsL c))) x.1
noncomputable def numsR.sp : ISpec := spOf numsR.ps numsR.pre numsR.res
abbrev numsR.OK : Prop := SpecOK Tryd.prog 14 numsR.sp
noncomputable def numsR.body : Code := bodyOf Tryd.f14
noncomputable def numsR.rs : List ResultVar := Tryd.f14.results.toList
def numsR.live : List (Nat × Live) := []
noncomputable def numsR.specs  : List (Nat × (List Bool × ISpec)) := [(24, ([], bit.sp))]
noncomputable def numsR.ospecs  : List (Nat × OS) := []
noncomputable def numsR.cfg  : Cfg := ⟨lkp tab, lkp (numsR.specs ), lkp numsR.live, ⟨lkp (numsR.ospecs ), [], none, false, []⟩⟩
noncomputable def numsR.go  (m : Nat) (x0 : (El TConfig)) : R := run (numsR.cfg ) 50 numsR.rs m [.code numsR.body] (enter (ivA numsR.ps (x0, ())))
theorem numsR.start  (m : Nat) (x0 : (El TConfig)) : numsR.go  (m + 1) x0 =
  some ((.c (.sl (.int .i64) (x0.1 :: (x0.2.1 :: (x0.2.2.1 :: (x0.2.2.2.1 :: (x0.2.2.2.2.1 :: (x0.2.2.2.2.2.1 :: (x0.2.2.2.2.2.2.1 :: (x0.2.2.2.2.2.2.2.1 :: (x0.2.2.2.2.2.2.2.2.1 :: (x0.2.2.2.2.2.2.2.2.2.1 :: (x0.2.2.2.2.2.2.2.2.2.2.1 :: (x0.2.2.2.2.2.2.2.2.2.2.2.1 :: (x0.2.2.2.2.2.2.2.2.2.2.2.2.1 :: (x0.2.2.2.2.2.2.2.2.2.2.2.2.2.1 :: (x0.2.2.2.2.2.2.2.2.2.2.2.2.2.2.1 :: ((bitI x0.2.2.2.2.2.2.2.2.2.2.2.2.2.2.2.1) :: (x0.2.2.2.2.2.2.2.2.2.2.2.2.2.2.2.2.1 :: (x0.2.2.2.2.2.2.2.2.2.2.2.2.2.2.2.2.2.1 :: (x0.2.2.2.2.2.2.2.2.2.2.2.2.2.2.2.2.2.2.1 :: (x0.2.2.2.2.2.2.2.2.2.2.2.2.2.2.2.2.2.2.2.1 :: (x0.2.2.2.2.2.2.2.2.2.2.2.2.2.2.2.2.2.2.2.2.1 :: ((0 : Int) :: ((bitI x0.2.2.2.2.2.2.2.2.2.2.2.2.2.2.2.2.2.2.2.2.2.2) :: ([] : List Int)))))))))))))))))))))))))), []) := by kernel_rfl
theorem numsR.run_eq  (m : Nat) (x0 : (El TConfig)) : run (numsR.cfg ) Tryd.f14.ntmps Tryd.f14.results.toList m [.code (bodyOf Tryd.f14)] (enter (ivA numsR.ps (x0, ()))) = numsR.go  m x0 := by kernel_rfl
theorem numsR.ret  (hs : SpecsOK Tryd.prog (numsR.specs ))  (x0 : (El TConfig)) {m : Nat} {r : IV} (h : numsR.go  m x0 = some (r, [])) : VE.Returns Tryd.prog 14 (ivA numsR.ps (x0, ())) r :=
  returns_of_run (cfg := numsR.cfg ) (cfgOK_of mixed tab_ok hs .nil) rfl Tryd.func14 (body_some (by kernel_rfl)) (Nat.le_of_ble_eq_true (by kernel_rfl)) ((numsR.run_eq  m x0).trans h)
abbrev numsR.Law : Prop := ∀ (x0 : (El TConfig)), numsR.pre (x0, ()) = true → VE.Returns Tryd.prog 14 (ivA numsR.ps (x0, ())) (numsR.res (x0, ()))
theorem numsR.mkR (H : ∀ (x0 : (El TConfig)), numsR.pre (x0, ()) = true → VE.Returns Tryd.prog 14 (ivA numsR.ps (x0, ())) (numsR.res (x0, ()))) : SpecOK Tryd.prog 14 numsR.sp :=
  specOf_ret Tryd.func14 (by kernel_rfl) (by kernel_rfl) fun (x : (El TConfig) × Unit) hx => H (x.1) hx
theorem numsR.mk  (hs : SpecsOK Tryd.prog (numsR.specs ))  (H : ∀ (x0 : (El TConfig)), numsR.pre (x0, ()) = true → ∃ m, numsR.go  m x0 = some (numsR.res (x0, ()), [])) : SpecOK Tryd.prog 14 numsR.sp :=
  numsR.mkR fun x0 hx => (H x0 hx).elim fun _ hm => numsR.ret  hs  x0 hm

/-! ### triage/triageref1.rows -/
abbrev rowsR.ps : List AK := []
def rowsR.pre : ElA rowsR.ps → Bool := fun (x : Unit) => true
noncomputable def rowsR.res : ElA rowsR.ps → IV := fun (x : Unit) => (.c (.sl TRow rowsL)) 
noncomputable def rowsR.sp : ISpec := spOf rowsR.ps rowsR.pre rowsR.res
abbrev rowsR.OK : Prop := SpecOK Tryd.prog 15 rowsR.sp
noncomputable def rowsR.body : Code := bodyOf Tryd.f15
noncomputable def rowsR.rs : List ResultVar := Tryd.f15.results.toList
def rowsR.live : List (Nat × Live) := []
noncomputable def rowsR.specs  : List (Nat × (List Bool × ISpec)) := []
noncomputable def rowsR.ospecs  : List (Nat × OS) := []
noncomputable def rowsR.cfg  : Cfg := ⟨lkp tab, lkp (rowsR.specs ), lkp rowsR.live, ⟨lkp (rowsR.ospecs ), [], none, false, []⟩⟩
noncomputable def rowsR.go  (m : Nat)  : R := run (rowsR.cfg ) 25 rowsR.rs m [.code rowsR.body] (enter (ivA rowsR.ps ()))
theorem rowsR.start  (m : Nat)  : rowsR.go  (m + 1)  =
  some ((.c (.sl TRow (((⟨#[105, 110, 116, 101, 114, 118, 97, 108]⟩ : ByteArray), ((10 : Int), ((10000 : Int), (100 : Int)))) :: (((⟨#[116, 105, 109, 101, 111, 117, 116]⟩ : ByteArray), ((1 : Int), ((10000 : Int), (20 : Int)))) :: (((⟨#[106, 105, 116, 116, 101, 114]⟩ : ByteArray), ((0 : Int), ((1000 : Int), (0 : Int)))) :: (((⟨#[114, 105, 115, 101]⟩ : ByteArray), ((1 : Int), ((10 : Int), (2 : Int)))) :: (((⟨#[102, 97, 108, 108]⟩ : ByteArray), ((1 : Int), ((10 : Int), (3 : Int)))) :: (((⟨#[112, 97, 110, 105, 99]⟩ : ByteArray), ((0 : Int), ((100 : Int), (50 : Int)))) :: (((⟨#[111, 118, 101, 114]⟩ : ByteArray), ((100 : Int), ((1000 : Int), (140 : Int)))) :: (((⟨#[101, 114, 114, 111, 114, 115]⟩ : ByteArray), ((0 : Int), ((100 : Int), (5 : Int)))) :: (((⟨#[115, 119, 101, 101, 112]⟩ : ByteArray), ((10 : Int), ((10000 : Int), (1000 : Int)))) :: (((⟨#[104, 111, 115, 116, 115]⟩ : ByteArray), ((1 : Int), ((64 : Int), (5 : Int)))) :: (((⟨#[114, 101, 113, 117, 101, 115, 116, 115]⟩ : ByteArray), ((1 : Int), ((1000 : Int), (100 : Int)))) :: (((⟨#[102, 97, 99, 116, 111, 114]⟩ : ByteArray), ((0 : Int), ((10000 : Int), (1900 : Int)))) :: (((⟨#[102, 97, 105, 108, 115]⟩ : ByteArray), ((0 : Int), ((100 : Int), (0 : Int)))) :: (((⟨#[98, 97, 115, 101]⟩ : ByteArray), ((1 : Int), ((10000 : Int), (3000 : Int)))) :: (((⟨#[101, 106, 101, 99, 116]⟩ : ByteArray), ((0 : Int), ((100 : Int), (10 : Int)))) :: (((⟨#[111, 110, 101]⟩ : ByteArray), ((0 : Int), ((1 : Int), (1 : Int)))) :: (((⟨#[115, 108, 111, 119]⟩ : ByteArray), ((0 : Int), ((10000 : Int), (0 : Int)))) :: (((⟨#[100, 114, 97, 105, 110]⟩ : ByteArray), ((1 : Int), ((10000 : Int), (5000 : Int)))) :: (((⟨#[104, 111, 115, 116, 108, 105, 109, 105, 116]⟩ : ByteArray), ((1 : Int), ((1000 : Int), (1000 : Int)))) :: (((⟨#[112, 111, 111, 108, 108, 105, 109, 105, 116]⟩ : ByteArray), ((1 : Int), ((10000 : Int), (10000 : Int)))) :: (((⟨#[112, 111, 108, 105, 99, 121]⟩ : ByteArray), ((1 : Int), ((3 : Int), (1 : Int)))) :: (((⟨#[122, 111, 110, 101]⟩ : ByteArray), ((0 : Int), ((0 : Int), (0 : Int)))) :: (((⟨#[102, 97, 108, 108, 98, 97, 99, 107]⟩ : ByteArray), ((0 : Int), ((1 : Int), (0 : Int)))) :: ([] : List (El TNum))))))))))))))))))))))))))), []) := by kernel_rfl
theorem rowsR.run_eq  (m : Nat)  : run (rowsR.cfg ) Tryd.f15.ntmps Tryd.f15.results.toList m [.code (bodyOf Tryd.f15)] (enter (ivA rowsR.ps ())) = rowsR.go  m  := by kernel_rfl
theorem rowsR.ret  (hs : SpecsOK Tryd.prog (rowsR.specs ))   {m : Nat} {r : IV} (h : rowsR.go  m  = some (r, [])) : VE.Returns Tryd.prog 15 (ivA rowsR.ps ()) r :=
  returns_of_run (cfg := rowsR.cfg ) (cfgOK_of mixed tab_ok hs .nil) rfl Tryd.func15 (body_some (by kernel_rfl)) (Nat.le_of_ble_eq_true (by kernel_rfl)) ((rowsR.run_eq  m ).trans h)
abbrev rowsR.Law : Prop := ∀ (_ : Unit), rowsR.pre () = true → VE.Returns Tryd.prog 15 (ivA rowsR.ps ()) (rowsR.res ())
theorem rowsR.mkR (H : ∀ (_ : Unit), rowsR.pre () = true → VE.Returns Tryd.prog 15 (ivA rowsR.ps ()) (rowsR.res ())) : SpecOK Tryd.prog 15 rowsR.sp :=
  specOf_ret Tryd.func15 (by kernel_rfl) (by kernel_rfl) fun (x : Unit) hx => H () hx
theorem rowsR.mk  (hs : SpecsOK Tryd.prog (rowsR.specs ))  (H : ∀ (_ : Unit), rowsR.pre () = true → ∃ m, rowsR.go  m  = some (rowsR.res (), [])) : SpecOK Tryd.prog 15 rowsR.sp :=
  rowsR.mkR fun _ hx => (H () hx).elim fun _ hm => rowsR.ret  hs   hm

/-! ### triage/triageref1.MayConfig -/
abbrev mayCR.ps : List AK := [.d true TConfig]
def mayCR.pre : ElA mayCR.ps → Bool := fun (x : (El TConfig) × Unit) => fits TConfig (x.1) && (true)
noncomputable def mayCR.res : ElA mayCR.ps → IV := fun (x : (El TConfig) × Unit) => (fun c => vb (mayC c)) x.1
noncomputable def mayCR.sp : ISpec := spOf mayCR.ps mayCR.pre mayCR.res
abbrev mayCR.OK : Prop := SpecOK Tryd.prog 7 mayCR.sp
noncomputable def mayCR.body : Code := bodyOf Tryd.f7
noncomputable def mayCR.rs : List ResultVar := Tryd.f7.results.toList
def mayCR.live : List (Nat × Live) := [(3, ⟨[(1, .plain), (3, .sl (.int .i64)), (8, .sl TRow), (9, .plain), (10, .plain)], [(1, [])]⟩)]
noncomputable def mayCR.specs  : List (Nat × (List Bool × ISpec)) := [(14, ([], numsR.sp)), (15, ([], rowsR.sp)), (16, ([], wordR.sp))]
noncomputable def mayCR.ospecs  : List (Nat × OS) := []
noncomputable def mayCR.cfg  : Cfg := ⟨lkp tab, lkp (mayCR.specs ), lkp mayCR.live, ⟨lkp (mayCR.ospecs ), [], none, false, []⟩⟩
noncomputable def mayCR.l1  (m : Nat) (x0 : List Int) (x1 : List (El TNum)) (x2 : Int) (x3 : Int) (x4 : Int) (x5 : Int) (x6 : Int) (x7 : Int) (x8 : Int) (x9 : Int) (x10 : Int) (x11 : Int) (x12 : Int) (x13 : Int) (x14 : Int) (x15 : Int) (x16 : Int) (x17 : Int) (x18 : Int) (x19 : Bool) (x20 : Int) (x21 : Int) (x22 : Int) (x23 : Int) (x24 : Int) (x25 : ByteArray) (x26 : Bool) : R := run (mayCR.cfg ) 40 mayCR.rs m ((todoR 3 mayCR.body []).getD []) ⟨ofList (.c .junk) [(1, (.c (.ref 1 0))), (3, (.c (.sl (.int .i64) x0))), (8, (.c (.sl TRow x1))), (9, (.c (.v (.int .i64 x2)))), (10, (.c (.v (.int .i64 x3))))], ofList none [(1, some (.cells 23 [(.v (.int .i64 x4)), (.v (.int .i64 x5)), (.v (.int .i64 x6)), (.v (.int .i64 x7)), (.v (.int .i64 x8)), (.v (.int .i64 x9)), (.v (.int .i64 x10)), (.v (.int .i64 x11)), (.v (.int .i64 x12)), (.v (.int .i64 x13)), (.v (.int .i64 x14)), (.v (.int .i64 x15)), (.v (.int .i64 x16)), (.v (.int .i64 x17)), (.v (.int .i64 x18)), (.v (.bool x19)), (.v (.int .i64 x20)), (.v (.int .i64 x21)), (.v (.int .i64 x22)), (.v (.int .i64 x23)), (.v (.int .i64 x24)), (.v (.string x25)), (.v (.bool x26))]))], ofList false [(1, true)]⟩
noncomputable def mayCR.go  (m : Nat) (x0 : (El TConfig)) : R := run (mayCR.cfg ) 40 mayCR.rs m [.code mayCR.body] (enter (ivA mayCR.ps (x0, ())))
theorem mayCR.start  (m : Nat) (x0 : (El TConfig)) : mayCR.go  (m + 1) x0 =
  test (numsR.pre (x0, Unit.unit)) (
   mayCR.l1  m (numsL x0) rowsL ((List.length rowsL) : Int) (0 : Int) x0.1 x0.2.1 x0.2.2.1 x0.2.2.2.1 x0.2.2.2.2.1 x0.2.2.2.2.2.1 x0.2.2.2.2.2.2.1 x0.2.2.2.2.2.2.2.1 x0.2.2.2.2.2.2.2.2.1 x0.2.2.2.2.2.2.2.2.2.1 x0.2.2.2.2.2.2.2.2.2.2.1 x0.2.2.2.2.2.2.2.2.2.2.2.1 x0.2.2.2.2.2.2.2.2.2.2.2.2.1 x0.2.2.2.2.2.2.2.2.2.2.2.2.2.1 x0.2.2.2.2.2.2.2.2.2.2.2.2.2.2.1 x0.2.2.2.2.2.2.2.2.2.2.2.2.2.2.2.1 x0.2.2.2.2.2.2.2.2.2.2.2.2.2.2.2.2.1 x0.2.2.2.2.2.2.2.2.2.2.2.2.2.2.2.2.2.1 x0.2.2.2.2.2.2.2.2.2.2.2.2.2.2.2.2.2.2.1 x0.2.2.2.2.2.2.2.2.2.2.2.2.2.2.2.2.2.2.2.1 x0.2.2.2.2.2.2.2.2.2.2.2.2.2.2.2.2.2.2.2.2.1 x0.2.2.2.2.2.2.2.2.2.2.2.2.2.2.2.2.2.2.2.2.2.1 x0.2.2.2.2.2.2.2.2.2.2.2.2.2.2.2.2.2.2.2.2.2.2) := by kernel_rfl
theorem mayCR.s1  (m : Nat) (x0 : List Int) (x1 : List (El TNum)) (x2 : Int) (x3 : Int) (x4 : Int) (x5 : Int) (x6 : Int) (x7 : Int) (x8 : Int) (x9 : Int) (x10 : Int) (x11 : Int) (x12 : Int) (x13 : Int) (x14 : Int) (x15 : Int) (x16 : Int) (x17 : Int) (x18 : Int) (x19 : Bool) (x20 : Int) (x21 : Int) (x22 : Int) (x23 : Int) (x24 : Int) (x25 : ByteArray) (x26 : Bool) : mayCR.l1  (m + 1) x0 x1 x2 x3 x4 x5 x6 x7 x8 x9 x10 x11 x12 x13 x14 x15 x16 x17 x18 x19 x20 x21 x22 x23 x24 x25 x26 =
  cond (decide (x3 < x2)) (
   test (decide ((0 : Int) ≤ x3)) (
    test (decide (x3 < ((List.length x1) : Int))) (
     test (decide ((0 : Int) ≤ x3)) (
      test (decide (x3 < ((List.length x0) : Int))) (
       cond (decide ((rdEl (.int .i64) x0 (Int.toNat x3)) < (((rdEl TRow x1 (Int.toNat x3))).2).1)) (
        some ((.c (.v (.bool false))), [])) (
        test (decide ((0 : Int) ≤ x3)) (
         test (decide (x3 < ((List.length x0) : Int))) (
          cond (decide ((rdEl (.int .i64) x0 (Int.toNat x3)) > ((((rdEl TRow x1 (Int.toNat x3))).2).2).1)) (
           some ((.c (.v (.bool false))), [])) (
           mayCR.l1  m x0 x1 x2 (IntKind.i64.wrap (x3 + (1 : Int))) x4 x5 x6 x7 x8 x9 x10 x11 x12 x13 x14 x15 x16 x17 x18 x19 x20 x21 x22 x23 x24 x25 x26))))))))) (
   cond ((ByteArray.toList x25) == (ByteArray.toList (⟨#[]⟩ : ByteArray))) (
    some ((.c (.v (.bool true))), [])) (
    test (wordR.pre (x25, Unit.unit)) (
     some ((.c (.v (.bool (wordB x25)))), [])))) := by kernel_rfl
theorem mayCR.run_eq  (m : Nat) (x0 : (El TConfig)) : run (mayCR.cfg ) Tryd.f7.ntmps Tryd.f7.results.toList m [.code (bodyOf Tryd.f7)] (enter (ivA mayCR.ps (x0, ()))) = mayCR.go  m x0 := by kernel_rfl
theorem mayCR.ret  (hs : SpecsOK Tryd.prog (mayCR.specs ))  (x0 : (El TConfig)) {m : Nat} {r : IV} (h : mayCR.go  m x0 = some (r, [])) : VE.Returns Tryd.prog 7 (ivA mayCR.ps (x0, ())) r :=
  returns_of_run (cfg := mayCR.cfg ) (cfgOK_of mixed tab_ok hs .nil) rfl Tryd.func7 (body_some (by kernel_rfl)) (Nat.le_of_ble_eq_true (by kernel_rfl)) ((mayCR.run_eq  m x0).trans h)
abbrev mayCR.Law : Prop := ∀ (x0 : (El TConfig)), mayCR.pre (x0, ()) = true → VE.Returns Tryd.prog 7 (ivA mayCR.ps (x0, ())) (mayCR.res (x0, ()))
theorem mayCR.mkR (H : ∀ (x0 : (El TConfig)), mayCR.pre (x0, ()) = true → VE.Returns Tryd.prog 7 (ivA mayCR.ps (x0, ())) (mayCR.res (x0, ()))) : SpecOK Tryd.prog 7 mayCR.sp :=
  specOf_ret Tryd.func7 (by kernel_rfl) (by kernel_rfl) fun (x : (El TConfig) × Unit) hx => H (x.1) hx
theorem mayCR.mk  (hs : SpecsOK Tryd.prog (mayCR.specs ))  (H : ∀ (x0 : (El TConfig)), mayCR.pre (x0, ()) = true → ∃ m, mayCR.go  m x0 = some (mayCR.res (x0, ()), [])) : SpecOK Tryd.prog 7 mayCR.sp :=
  mayCR.mkR fun x0 hx => (H x0 hx).elim fun _ hm => mayCR.ret  hs  x0 hm

/-! ### strconv.Itoa -/
abbrev itoa.ps : List AK := [.d false (.int .i64)]
def itoa.pre : ElA itoa.ps → Bool := fun (x : Int × Unit) => fits (.int .i64) (x.1) && ((fun n => decide (-9223372036854775808 ≤ n ∧ n ≤ 9223372036854775807)) x.1 && (true))
noncomputable def itoa.res : ElA itoa.ps → IV := fun (x : Int × Unit) => (fun n => vs (itoaB n)) x.1
noncomputable def itoa.sp : ISpec := spOf itoa.ps itoa.pre itoa.res
abbrev itoa.OK : Prop := SpecOK Tryd.prog 23 itoa.sp
theorem itoa.mkR (H : ∀ (x0 : Int), itoa.pre (x0, ()) = true → VE.Returns Tryd.prog 23 (ivA itoa.ps (x0, ())) (itoa.res (x0, ()))) : SpecOK Tryd.prog 23 itoa.sp :=
  specOf_ret Tryd.func23 (by kernel_rfl) (by kernel_rfl) fun (x : Int × Unit) hx => H (x.1) hx

/-! ### triage/hash.Text -/
abbrev text.ps : List AK := [.d false .str]
def text.pre : ElA text.ps → Bool := fun (x : ByteArray × Unit) => fits .str (x.1) && (true)
noncomputable def text.res : ElA text.ps → IV := fun (x : ByteArray × Unit) => (fun s => vi .u64 (textN s)) x.1
noncomputable def text.sp : ISpec := spOf text.ps text.pre text.res
abbrev text.OK : Prop := SpecOK Tryd.prog 26 text.sp
noncomputable def text.body : Code := bodyOf Tryd.f26
noncomputable def text.rs : List ResultVar := Tryd.f26.results.toList
def text.live : List (Nat × Live) := [(3, ⟨[(0, .plain), (3, .plain), (6, .plain), (7, .plain)], []⟩)]
noncomputable def text.specs  : List (Nat × (List Bool × ISpec)) := []
noncomputable def text.ospecs  : List (Nat × OS) := []
noncomputable def text.cfg  : Cfg := ⟨lkp tab, lkp (text.specs ), lkp text.live, ⟨lkp (text.ospecs ), [], none, false, []⟩⟩
noncomputable def text.l1  (m : Nat) (x0 : ByteArray) (x1 : Int) (x2 : Int) (x3 : Int) : R := run (text.cfg ) 27 text.rs m ((todoR 3 text.body []).getD []) ⟨ofList (.c .junk) [(0, (.c (.v (.string x0)))), (3, (.c (.v (.int .u64 x1)))), (6, (.c (.v (.int .i64 x2)))), (7, (.c (.v (.int .i64 x3))))], ofList none [], ofList false []⟩
noncomputable def text.go  (m : Nat) (x0 : ByteArray) : R := run (text.cfg ) 27 text.rs m [.code text.body] (enter (ivA text.ps (x0, ())))
theorem text.start  (m : Nat) (x0 : ByteArray) : text.go  (m + 1) x0 =
  text.l1  m x0 (14695981039346656037 : Int) ((ByteArray.size x0) : Int) (0 : Int) := by kernel_rfl
theorem text.s1  (m : Nat) (x0 : ByteArray) (x1 : Int) (x2 : Int) (x3 : Int) : text.l1  (m + 1) x0 x1 x2 x3 =
  cond (decide (x3 < x2)) (
   test (decide ((0 : Int) ≤ x3)) (
    test (decide (x3 < ((ByteArray.size x0) : Int))) (
     text.l1  m x0 (IntKind.u64.wrap ((IntKind.u64.wrap ((BitVec.toNat ((BitVec.ofInt (Go.IntKind.bits Go.IntKind.u64) x1) ^^^ (BitVec.ofInt (Go.IntKind.bits Go.IntKind.u64) (IntKind.u64.wrap (byteAt x0 x3))))) : Int)) * (1099511628211 : Int))) x2 (IntKind.i64.wrap (x3 + (1 : Int)))))) (
   some ((.c (.v (.int .u64 (IntKind.u64.wrap ((BitVec.toNat ((BitVec.ofInt (Go.IntKind.bits Go.IntKind.u64) (IntKind.u64.wrap ((IntKind.u64.wrap ((BitVec.toNat ((BitVec.ofInt (Go.IntKind.bits Go.IntKind.u64) x1) ^^^ (BitVec.ofInt (Go.IntKind.bits Go.IntKind.u64) (Int.fdiv x1 ((2 : Int) ^ (Min.min (Int.toNat (33 : Int)) (Go.IntKind.bits Go.IntKind.u64))))))) : Int)) * (18397679294719823053 : Int)))) ^^^ (BitVec.ofInt (Go.IntKind.bits Go.IntKind.u64) (Int.fdiv (IntKind.u64.wrap ((IntKind.u64.wrap ((BitVec.toNat ((BitVec.ofInt (Go.IntKind.bits Go.IntKind.u64) x1) ^^^ (BitVec.ofInt (Go.IntKind.bits Go.IntKind.u64) (Int.fdiv x1 ((2 : Int) ^ (Min.min (Int.toNat (33 : Int)) (Go.IntKind.bits Go.IntKind.u64))))))) : Int)) * (18397679294719823053 : Int))) ((2 : Int) ^ (Min.min (Int.toNat (33 : Int)) (Go.IntKind.bits Go.IntKind.u64))))))) : Int))))), [])) := by kernel_rfl
theorem text.run_eq  (m : Nat) (x0 : ByteArray) : run (text.cfg ) Tryd.f26.ntmps Tryd.f26.results.toList m [.code (bodyOf Tryd.f26)] (enter (ivA text.ps (x0, ()))) = text.go  m x0 := by kernel_rfl
theorem text.ret  (hs : SpecsOK Tryd.prog (text.specs ))  (x0 : ByteArray) {m : Nat} {r : IV} (h : text.go  m x0 = some (r, [])) : VE.Returns Tryd.prog 26 (ivA text.ps (x0, ())) r :=
  returns_of_run (cfg := text.cfg ) (cfgOK_of mixed tab_ok hs .nil) rfl Tryd.func26 (body_some (by kernel_rfl)) (Nat.le_of_ble_eq_true (by kernel_rfl)) ((text.run_eq  m x0).trans h)
abbrev text.Law : Prop := ∀ (x0 : ByteArray), text.pre (x0, ()) = true → VE.Returns Tryd.prog 26 (ivA text.ps (x0, ())) (text.res (x0, ()))
theorem text.mkR (H : ∀ (x0 : ByteArray), text.pre (x0, ()) = true → VE.Returns Tryd.prog 26 (ivA text.ps (x0, ())) (text.res (x0, ()))) : SpecOK Tryd.prog 26 text.sp :=
  specOf_ret Tryd.func26 (by kernel_rfl) (by kernel_rfl) fun (x : ByteArray × Unit) hx => H (x.1) hx
theorem text.mk  (hs : SpecsOK Tryd.prog (text.specs ))  (H : ∀ (x0 : ByteArray), text.pre (x0, ()) = true → ∃ m, text.go  m x0 = some (text.res (x0, ()), [])) : SpecOK Tryd.prog 26 text.sp :=
  text.mkR fun x0 hx => (H x0 hx).elim fun _ hm => text.ret  hs  x0 hm

/-! ### triage/hash.With -/
abbrev with.ps : List AK := [.d false .str, .d false (.int .i64)]
def with.pre : ElA with.ps → Bool := fun (x : ByteArray × Int × Unit) => fits .str (x.1) && (fits (.int .i64) (x.2.1) && ((fun s n => decide (s.size ≤ 100000 ∧ -9223372036854775808 ≤ n ∧ n ≤ 9223372036854775807)) x.1 x.2.1 && (true)))
noncomputable def with.res : ElA with.ps → IV := fun (x : ByteArray × Int × Unit) => (fun s n => vi .u64 (withN s n)) x.1 x.2.1
noncomputable def with.sp : ISpec := spOf with.ps with.pre with.res
abbrev with.OK : Prop := SpecOK Tryd.prog 22 with.sp
noncomputable def with.body : Code := bodyOf Tryd.f22
noncomputable def with.rs : List ResultVar := Tryd.f22.results.toList
def with.live : List (Nat × Live) := []
noncomputable def with.specs  : List (Nat × (List Bool × ISpec)) := [(23, ([], itoa.sp)), (26, ([], text.sp))]
noncomputable def with.ospecs  : List (Nat × OS) := []
noncomputable def with.cfg  : Cfg := ⟨lkp tab, lkp (with.specs ), lkp with.live, ⟨lkp (with.ospecs ), [], none, false, []⟩⟩
noncomputable def with.go  (m : Nat) (x0 : ByteArray) (x1 : Int) : R := run (with.cfg ) 11 with.rs m [.code with.body] (enter (ivA with.ps (x0, x1, ())))
theorem with.start  (m : Nat) (x0 : ByteArray) (x1 : Int) : with.go  (m + 1) x0 x1 =
  test (decide (((ByteArray.size x0) + (ByteArray.size (⟨#[35]⟩ : ByteArray))) ≤ 9223372036854775807)) (
   test (itoa.pre (x1, Unit.unit)) (
    test (decide (((ByteArray.size (x0 ++ (⟨#[35]⟩ : ByteArray))) + (ByteArray.size (itoaB x1))) ≤ 9223372036854775807)) (
     test (text.pre (((x0 ++ (⟨#[35]⟩ : ByteArray)) ++ (itoaB x1)), Unit.unit)) (
      some ((.c (.v (.int .u64 (textN ((x0 ++ (⟨#[35]⟩ : ByteArray)) ++ (itoaB x1)))))), []))))) := by kernel_rfl
theorem with.run_eq  (m : Nat) (x0 : ByteArray) (x1 : Int) : run (with.cfg ) Tryd.f22.ntmps Tryd.f22.results.toList m [.code (bodyOf Tryd.f22)] (enter (ivA with.ps (x0, x1, ()))) = with.go  m x0 x1 := by kernel_rfl
theorem with.ret  (hs : SpecsOK Tryd.prog (with.specs ))  (x0 : ByteArray) (x1 : Int) {m : Nat} {r : IV} (h : with.go  m x0 x1 = some (r, [])) : VE.Returns Tryd.prog 22 (ivA with.ps (x0, x1, ())) r :=
  returns_of_run (cfg := with.cfg ) (cfgOK_of mixed tab_ok hs .nil) rfl Tryd.func22 (body_some (by kernel_rfl)) (Nat.le_of_ble_eq_true (by kernel_rfl)) ((with.run_eq  m x0 x1).trans h)
abbrev with.Law : Prop := ∀ (x0 : ByteArray) (x1 : Int), with.pre (x0, x1, ()) = true → VE.Returns Tryd.prog 22 (ivA with.ps (x0, x1, ())) (with.res (x0, x1, ()))
theorem with.mkR (H : ∀ (x0 : ByteArray) (x1 : Int), with.pre (x0, x1, ()) = true → VE.Returns Tryd.prog 22 (ivA with.ps (x0, x1, ())) (with.res (x0, x1, ()))) : SpecOK Tryd.prog 22 with.sp :=
  specOf_ret Tryd.func22 (by kernel_rfl) (by kernel_rfl) fun (x : ByteArray × Int × Unit) hx => H (x.1) (x.2.1) hx
theorem with.mk  (hs : SpecsOK Tryd.prog (with.specs ))  (H : ∀ (x0 : ByteArray) (x1 : Int), with.pre (x0, x1, ()) = true → ∃ m, with.go  m x0 x1 = some (with.res (x0, x1, ()), [])) : SpecOK Tryd.prog 22 with.sp :=
  with.mkR fun x0 x1 hx => (H x0 x1 hx).elim fun _ hm => with.ret  hs  x0 x1 hm

/-! ### triage/hash.Below -/
abbrev below.ps : List AK := [.d false (.int .u64), .d false (.int .i64)]
def below.pre : ElA below.ps → Bool := fun (x : Int × Int × Unit) => fits (.int .u64) (x.1) && (fits (.int .i64) (x.2.1) && ((fun h n => decide (0 ≤ h ∧ h < 18446744073709551616 ∧ n ≤ 9223372036854775807)) x.1 x.2.1 && (true)))
noncomputable def below.res : ElA below.ps → IV := fun (x : Int × Int × Unit) => (fun h n => vi .i64 (belowN h n)) x.1 x.2.1
noncomputable def below.sp : ISpec := spOf below.ps below.pre below.res
abbrev below.OK : Prop := SpecOK Tryd.prog 21 below.sp
noncomputable def below.body : Code := bodyOf Tryd.f21
noncomputable def below.rs : List ResultVar := Tryd.f21.results.toList
def below.live : List (Nat × Live) := []
noncomputable def below.specs  : List (Nat × (List Bool × ISpec)) := []
noncomputable def below.ospecs  : List (Nat × OS) := []
noncomputable def below.cfg  : Cfg := ⟨lkp tab, lkp (below.specs ), lkp below.live, ⟨lkp (below.ospecs ), [], none, false, []⟩⟩
noncomputable def below.go  (m : Nat) (x0 : Int) (x1 : Int) : R := run (below.cfg ) 12 below.rs m [.code below.body] (enter (ivA below.ps (x0, x1, ())))
theorem below.start  (m : Nat) (x0 : Int) (x1 : Int) : below.go  (m + 1) x0 x1 =
  cond (decide (x1 < (1 : Int))) (
   some ((.c (.v (.int .i64 (0 : Int)))), [])) (
   test (Bool.not (decide ((IntKind.u64.wrap x1) = (0 : Int)))) (
    some ((.c (.v (.int .i64 (IntKind.i64.wrap (Int.tmod x0 (IntKind.u64.wrap x1)))))), []))) := by kernel_rfl
theorem below.run_eq  (m : Nat) (x0 : Int) (x1 : Int) : run (below.cfg ) Tryd.f21.ntmps Tryd.f21.results.toList m [.code (bodyOf Tryd.f21)] (enter (ivA below.ps (x0, x1, ()))) = below.go  m x0 x1 := by kernel_rfl
theorem below.ret  (hs : SpecsOK Tryd.prog (below.specs ))  (x0 : Int) (x1 : Int) {m : Nat} {r : IV} (h : below.go  m x0 x1 = some (r, [])) : VE.Returns Tryd.prog 21 (ivA below.ps (x0, x1, ())) r :=
  returns_of_run (cfg := below.cfg ) (cfgOK_of mixed tab_ok hs .nil) rfl Tryd.func21 (body_some (by kernel_rfl)) (Nat.le_of_ble_eq_true (by kernel_rfl)) ((below.run_eq  m x0 x1).trans h)
abbrev below.Law : Prop := ∀ (x0 : Int) (x1 : Int), below.pre (x0, x1, ()) = true → VE.Returns Tryd.prog 21 (ivA below.ps (x0, x1, ())) (below.res (x0, x1, ()))
theorem below.mkR (H : ∀ (x0 : Int) (x1 : Int), below.pre (x0, x1, ()) = true → VE.Returns Tryd.prog 21 (ivA below.ps (x0, x1, ())) (below.res (x0, x1, ()))) : SpecOK Tryd.prog 21 below.sp :=
  specOf_ret Tryd.func21 (by kernel_rfl) (by kernel_rfl) fun (x : Int × Int × Unit) hx => H (x.1) (x.2.1) hx
theorem below.mk  (hs : SpecsOK Tryd.prog (below.specs ))  (H : ∀ (x0 : Int) (x1 : Int), below.pre (x0, x1, ()) = true → ∃ m, below.go  m x0 x1 = some (below.res (x0, x1, ()), [])) : SpecOK Tryd.prog 21 below.sp :=
  below.mkR fun x0 x1 hx => (H x0 x1 hx).elim fun _ hm => below.ret  hs  x0 x1 hm

/-! ### triage/probe.known -/
abbrev known.ps : List AK := [.d true TConfig]
def known.pre : ElA known.ps → Bool := fun (x : (El TConfig) × Unit) => fits TConfig (x.1) && (true)
noncomputable def known.res : ElA known.ps → IV := fun (x : (El TConfig) × Unit) => (fun c => mkIV true (enc TConfig (heldC c))) x.1
noncomputable def known.sp : ISpec := spOf known.ps known.pre known.res
abbrev known.OK : Prop := SpecOK Tryd.prog 19 known.sp
noncomputable def known.body : Code := bodyOf Tryd.f19
noncomputable def known.rs : List ResultVar := Tryd.f19.results.toList
def known.live : List (Nat × Live) := []
noncomputable def known.specs  : List (Nat × (List Bool × ISpec)) := [(25, ([], cMay.sp)), (17, ([], cDef.sp))]
noncomputable def known.ospecs  : List (Nat × OS) := []
noncomputable def known.cfg  : Cfg := ⟨lkp tab, lkp (known.specs ), lkp known.live, ⟨lkp (known.ospecs ), [], none, false, []⟩⟩
noncomputable def known.go  (m : Nat) (x0 : (El TConfig)) : R := run (known.cfg ) 8 known.rs m [.code known.body] (enter (ivA known.ps (x0, ())))
theorem known.start  (m : Nat) (x0 : (El TConfig)) : known.go  (m + 1) x0 =
  test (cMay.pre (x0, Unit.unit)) (
   cond (Bool.not (mayC x0)) (
    some ((.agg [(.v (.int .i64 defC.1)), (.v (.int .i64 defC.2.1)), (.v (.int .i64 defC.2.2.1)), (.v (.int .i64 defC.2.2.2.1)), (.v (.int .i64 defC.2.2.2.2.1)), (.v (.int .i64 defC.2.2.2.2.2.1)), (.v (.int .i64 defC.2.2.2.2.2.2.1)), (.v (.int .i64 defC.2.2.2.2.2.2.2.1)), (.v (.int .i64 defC.2.2.2.2.2.2.2.2.1)), (.v (.int .i64 defC.2.2.2.2.2.2.2.2.2.1)), (.v (.int .i64 defC.2.2.2.2.2.2.2.2.2.2.1)), (.v (.int .i64 defC.2.2.2.2.2.2.2.2.2.2.2.1)), (.v (.int .i64 defC.2.2.2.2.2.2.2.2.2.2.2.2.1)), (.v (.int .i64 defC.2.2.2.2.2.2.2.2.2.2.2.2.2.1)), (.v (.int .i64 defC.2.2.2.2.2.2.2.2.2.2.2.2.2.2.1)), (.v (.bool defC.2.2.2.2.2.2.2.2.2.2.2.2.2.2.2.1)), (.v (.int .i64 defC.2.2.2.2.2.2.2.2.2.2.2.2.2.2.2.2.1)), (.v (.int .i64 defC.2.2.2.2.2.2.2.2.2.2.2.2.2.2.2.2.2.1)), (.v (.int .i64 defC.2.2.2.2.2.2.2.2.2.2.2.2.2.2.2.2.2.2.1)), (.v (.int .i64 defC.2.2.2.2.2.2.2.2.2.2.2.2.2.2.2.2.2.2.2.1)), (.v (.int .i64 defC.2.2.2.2.2.2.2.2.2.2.2.2.2.2.2.2.2.2.2.2.1)), (.v (.string defC.2.2.2.2.2.2.2.2.2.2.2.2.2.2.2.2.2.2.2.2.2.1)), (.v (.bool defC.2.2.2.2.2.2.2.2.2.2.2.2.2.2.2.2.2.2.2.2.2.2))]), [])) (
    some ((.agg [(.v (.int .i64 x0.1)), (.v (.int .i64 x0.2.1)), (.v (.int .i64 x0.2.2.1)), (.v (.int .i64 x0.2.2.2.1)), (.v (.int .i64 x0.2.2.2.2.1)), (.v (.int .i64 x0.2.2.2.2.2.1)), (.v (.int .i64 x0.2.2.2.2.2.2.1)), (.v (.int .i64 x0.2.2.2.2.2.2.2.1)), (.v (.int .i64 x0.2.2.2.2.2.2.2.2.1)), (.v (.int .i64 x0.2.2.2.2.2.2.2.2.2.1)), (.v (.int .i64 x0.2.2.2.2.2.2.2.2.2.2.1)), (.v (.int .i64 x0.2.2.2.2.2.2.2.2.2.2.2.1)), (.v (.int .i64 x0.2.2.2.2.2.2.2.2.2.2.2.2.1)), (.v (.int .i64 x0.2.2.2.2.2.2.2.2.2.2.2.2.2.1)), (.v (.int .i64 x0.2.2.2.2.2.2.2.2.2.2.2.2.2.2.1)), (.v (.bool x0.2.2.2.2.2.2.2.2.2.2.2.2.2.2.2.1)), (.v (.int .i64 x0.2.2.2.2.2.2.2.2.2.2.2.2.2.2.2.2.1)), (.v (.int .i64 x0.2.2.2.2.2.2.2.2.2.2.2.2.2.2.2.2.2.1)), (.v (.int .i64 x0.2.2.2.2.2.2.2.2.2.2.2.2.2.2.2.2.2.2.1)), (.v (.int .i64 x0.2.2.2.2.2.2.2.2.2.2.2.2.2.2.2.2.2.2.2.1)), (.v (.int .i64 x0.2.2.2.2.2.2.2.2.2.2.2.2.2.2.2.2.2.2.2.2.1)), (.v (.string x0.2.2.2.2.2.2.2.2.2.2.2.2.2.2.2.2.2.2.2.2.2.1)), (.v (.bool x0.2.2.2.2.2.2.2.2.2.2.2.2.2.2.2.2.2.2.2.2.2.2))]), []))) := by kernel_rfl
theorem known.run_eq  (m : Nat) (x0 : (El TConfig)) : run (known.cfg ) Tryd.f19.ntmps Tryd.f19.results.toList m [.code (bodyOf Tryd.f19)] (enter (ivA known.ps (x0, ()))) = known.go  m x0 := by kernel_rfl
theorem known.ret  (hs : SpecsOK Tryd.prog (known.specs ))  (x0 : (El TConfig)) {m : Nat} {r : IV} (h : known.go  m x0 = some (r, [])) : VE.Returns Tryd.prog 19 (ivA known.ps (x0, ())) r :=
  returns_of_run (cfg := known.cfg ) (cfgOK_of mixed tab_ok hs .nil) rfl Tryd.func19 (body_some (by kernel_rfl)) (Nat.le_of_ble_eq_true (by kernel_rfl)) ((known.run_eq  m x0).trans h)
abbrev known.Law : Prop := ∀ (x0 : (El TConfig)), known.pre (x0, ()) = true → VE.Returns Tryd.prog 19 (ivA known.ps (x0, ())) (known.res (x0, ()))
theorem known.mkR (H : ∀ (x0 : (El TConfig)), known.pre (x0, ()) = true → VE.Returns Tryd.prog 19 (ivA known.ps (x0, ())) (known.res (x0, ()))) : SpecOK Tryd.prog 19 known.sp :=
  specOf_ret Tryd.func19 (by kernel_rfl) (by kernel_rfl) fun (x : (El TConfig) × Unit) hx => H (x.1) hx
theorem known.mk  (hs : SpecsOK Tryd.prog (known.specs ))  (H : ∀ (x0 : (El TConfig)), known.pre (x0, ()) = true → ∃ m, known.go  m x0 = some (known.res (x0, ()), [])) : SpecOK Tryd.prog 19 known.sp :=
  known.mkR fun x0 hx => (H x0 hx).elim fun _ hm => known.ret  hs  x0 hm

/-! ### triage/probe.New -/
abbrev newP.ps : List AK := []
def newP.pre : ElA newP.ps → Bool := fun (x : Unit) => true
noncomputable def newP.res : ElA newP.ps → IV := fun (x : Unit) => (mkIV true (enc TQ (true, 0, 0, 0))) 
noncomputable def newP.sp : ISpec := spOf newP.ps newP.pre newP.res
abbrev newP.OK : Prop := SpecOK Tryd.prog 11 newP.sp
noncomputable def newP.body : Code := bodyOf Tryd.f11
noncomputable def newP.rs : List ResultVar := Tryd.f11.results.toList
def newP.live : List (Nat × Live) := []
noncomputable def newP.specs  : List (Nat × (List Bool × ISpec)) := []
noncomputable def newP.ospecs  : List (Nat × OS) := []
noncomputable def newP.cfg  : Cfg := ⟨lkp tab, lkp (newP.specs ), lkp newP.live, ⟨lkp (newP.ospecs ), [], none, false, []⟩⟩
noncomputable def newP.go  (m : Nat)  : R := run (newP.cfg ) 2 newP.rs m [.code newP.body] (enter (ivA newP.ps ()))
theorem newP.start  (m : Nat)  : newP.go  (m + 1)  =
  some ((.agg [(.v (.bool true)), (.v (.int .i64 (0 : Int))), (.v (.int .i64 (0 : Int))), (.v (.int .i64 (0 : Int)))]), []) := by kernel_rfl
theorem newP.run_eq  (m : Nat)  : run (newP.cfg ) Tryd.f11.ntmps Tryd.f11.results.toList m [.code (bodyOf Tryd.f11)] (enter (ivA newP.ps ())) = newP.go  m  := by kernel_rfl
theorem newP.ret  (hs : SpecsOK Tryd.prog (newP.specs ))   {m : Nat} {r : IV} (h : newP.go  m  = some (r, [])) : VE.Returns Tryd.prog 11 (ivA newP.ps ()) r :=
  returns_of_run (cfg := newP.cfg ) (cfgOK_of mixed tab_ok hs .nil) rfl Tryd.func11 (body_some (by kernel_rfl)) (Nat.le_of_ble_eq_true (by kernel_rfl)) ((newP.run_eq  m ).trans h)
abbrev newP.Law : Prop := ∀ (_ : Unit), newP.pre () = true → VE.Returns Tryd.prog 11 (ivA newP.ps ()) (newP.res ())
theorem newP.mkR (H : ∀ (_ : Unit), newP.pre () = true → VE.Returns Tryd.prog 11 (ivA newP.ps ()) (newP.res ())) : SpecOK Tryd.prog 11 newP.sp :=
  specOf_ret Tryd.func11 (by kernel_rfl) (by kernel_rfl) fun (x : Unit) hx => H () hx
theorem newP.mk  (hs : SpecsOK Tryd.prog (newP.specs ))  (H : ∀ (_ : Unit), newP.pre () = true → ∃ m, newP.go  m  = some (newP.res (), [])) : SpecOK Tryd.prog 11 newP.sp :=
  newP.mkR fun _ hx => (H () hx).elim fun _ hm => newP.ret  hs   hm

/-! ### triage/probe.Well -/
abbrev well.ps : List AK := [.d true TQ]
def well.pre : ElA well.ps → Bool := fun (x : (El TQ) × Unit) => fits TQ (x.1) && (true)
noncomputable def well.res : ElA well.ps → IV := fun (x : (El TQ) × Unit) => (fun p => vb (wellB p)) x.1
noncomputable def well.sp : ISpec := spOf well.ps well.pre well.res
abbrev well.OK : Prop := SpecOK Tryd.prog 10 well.sp
noncomputable def well.body : Code := bodyOf Tryd.f10
noncomputable def well.rs : List ResultVar := Tryd.f10.results.toList
def well.live : List (Nat × Live) := []
noncomputable def well.specs  : List (Nat × (List Bool × ISpec)) := []
noncomputable def well.ospecs  : List (Nat × OS) := []
noncomputable def well.cfg  : Cfg := ⟨lkp tab, lkp (well.specs ), lkp well.live, ⟨lkp (well.ospecs ), [], none, false, []⟩⟩
noncomputable def well.go  (m : Nat) (x0 : (El TQ)) : R := run (well.cfg ) 15 well.rs m [.code well.body] (enter (ivA well.ps (x0, ())))
theorem well.start  (m : Nat) (x0 : (El TQ)) : well.go  (m + 1) x0 =
  cond (x0.2.2.1 == (2 : Int)) (
   some ((.c (.v (.bool true))), [])) (
   cond (x0.2.2.1 == (0 : Int)) (
    some ((.c (.v (.bool x0.1))), [])) (
    some ((.c (.v (.bool false))), []))) := by kernel_rfl
theorem well.run_eq  (m : Nat) (x0 : (El TQ)) : run (well.cfg ) Tryd.f10.ntmps Tryd.f10.results.toList m [.code (bodyOf Tryd.f10)] (enter (ivA well.ps (x0, ()))) = well.go  m x0 := by kernel_rfl
theorem well.ret  (hs : SpecsOK Tryd.prog (well.specs ))  (x0 : (El TQ)) {m : Nat} {r : IV} (h : well.go  m x0 = some (r, [])) : VE.Returns Tryd.prog 10 (ivA well.ps (x0, ())) r :=
  returns_of_run (cfg := well.cfg ) (cfgOK_of mixed tab_ok hs .nil) rfl Tryd.func10 (body_some (by kernel_rfl)) (Nat.le_of_ble_eq_true (by kernel_rfl)) ((well.run_eq  m x0).trans h)
abbrev well.Law : Prop := ∀ (x0 : (El TQ)), well.pre (x0, ()) = true → VE.Returns Tryd.prog 10 (ivA well.ps (x0, ())) (well.res (x0, ()))
theorem well.mkR (H : ∀ (x0 : (El TQ)), well.pre (x0, ()) = true → VE.Returns Tryd.prog 10 (ivA well.ps (x0, ())) (well.res (x0, ()))) : SpecOK Tryd.prog 10 well.sp :=
  specOf_ret Tryd.func10 (by kernel_rfl) (by kernel_rfl) fun (x : (El TQ) × Unit) hx => H (x.1) hx
theorem well.mk  (hs : SpecsOK Tryd.prog (well.specs ))  (H : ∀ (x0 : (El TQ)), well.pre (x0, ()) = true → ∃ m, well.go  m x0 = some (well.res (x0, ()), [])) : SpecOK Tryd.prog 10 well.sp :=
  well.mkR fun x0 hx => (H x0 hx).elim fun _ hm => well.ret  hs  x0 hm

/-! ### triage/probe.moved -/
abbrev moved.ps : List AK := [.d true TQ, .d true TQ]
def moved.pre : ElA moved.ps → Bool := fun (x : (El TQ) × (El TQ) × Unit) => fits TQ (x.1) && (fits TQ (x.2.1) && (true))
noncomputable def moved.res : ElA moved.ps → IV := fun (x : (El TQ) × (El TQ) × Unit) => (fun a b => vi .i64 (movedI a b)) x.1 x.2.1
noncomputable def moved.sp : ISpec := spOf moved.ps moved.pre moved.res
abbrev moved.OK : Prop := SpecOK Tryd.prog 20 moved.sp
noncomputable def moved.body : Code := bodyOf Tryd.f20
noncomputable def moved.rs : List ResultVar := Tryd.f20.results.toList
def moved.live : List (Nat × Live) := []
noncomputable def moved.specs  : List (Nat × (List Bool × ISpec)) := [(10, ([], well.sp))]
noncomputable def moved.ospecs  : List (Nat × OS) := []
noncomputable def moved.cfg  : Cfg := ⟨lkp tab, lkp (moved.specs ), lkp moved.live, ⟨lkp (moved.ospecs ), [], none, false, []⟩⟩
noncomputable def moved.go  (m : Nat) (x0 : (El TQ)) (x1 : (El TQ)) : R := run (moved.cfg ) 23 moved.rs m [.code moved.body] (enter (ivA moved.ps (x0, x1, ())))
theorem moved.start  (m : Nat) (x0 : (El TQ)) (x1 : (El TQ)) : moved.go  (m + 1) x0 x1 =
  cond (wellB x1) (
   cond (Bool.not (wellB x0)) (
    some ((.c (.v (.int .i64 (1 : Int)))), [])) (
    cond (wellB x0) (
     cond (Bool.not (wellB x1)) (
      some ((.c (.v (.int .i64 (2 : Int)))), [])) (
      some ((.c (.v (.int .i64 (0 : Int)))), []))) (
     some ((.c (.v (.int .i64 (0 : Int)))), [])))) (
   cond (wellB x0) (
    cond (Bool.not (wellB x1)) (
     some ((.c (.v (.int .i64 (2 : Int)))), [])) (
     some ((.c (.v (.int .i64 (0 : Int)))), []))) (
    some ((.c (.v (.int .i64 (0 : Int)))), []))) := by kernel_rfl
theorem moved.run_eq  (m : Nat) (x0 : (El TQ)) (x1 : (El TQ)) : run (moved.cfg ) Tryd.f20.ntmps Tryd.f20.results.toList m [.code (bodyOf Tryd.f20)] (enter (ivA moved.ps (x0, x1, ()))) = moved.go  m x0 x1 := by kernel_rfl
theorem moved.ret  (hs : SpecsOK Tryd.prog (moved.specs ))  (x0 : (El TQ)) (x1 : (El TQ)) {m : Nat} {r : IV} (h : moved.go  m x0 x1 = some (r, [])) : VE.Returns Tryd.prog 20 (ivA moved.ps (x0, x1, ())) r :=
  returns_of_run (cfg := moved.cfg ) (cfgOK_of mixed tab_ok hs .nil) rfl Tryd.func20 (body_some (by kernel_rfl)) (Nat.le_of_ble_eq_true (by kernel_rfl)) ((moved.run_eq  m x0 x1).trans h)
abbrev moved.Law : Prop := ∀ (x0 : (El TQ)) (x1 : (El TQ)), moved.pre (x0, x1, ()) = true → VE.Returns Tryd.prog 20 (ivA moved.ps (x0, x1, ())) (moved.res (x0, x1, ()))
theorem moved.mkR (H : ∀ (x0 : (El TQ)) (x1 : (El TQ)), moved.pre (x0, x1, ()) = true → VE.Returns Tryd.prog 20 (ivA moved.ps (x0, x1, ())) (moved.res (x0, x1, ()))) : SpecOK Tryd.prog 20 moved.sp :=
  specOf_ret Tryd.func20 (by kernel_rfl) (by kernel_rfl) fun (x : (El TQ) × (El TQ) × Unit) hx => H (x.1) (x.2.1) hx
theorem moved.mk  (hs : SpecsOK Tryd.prog (moved.specs ))  (H : ∀ (x0 : (El TQ)) (x1 : (El TQ)), moved.pre (x0, x1, ()) = true → ∃ m, moved.go  m x0 x1 = some (moved.res (x0, x1, ()), [])) : SpecOK Tryd.prog 20 moved.sp :=
  moved.mkR fun x0 x1 hx => (H x0 x1 hx).elim fun _ hm => moved.ret  hs  x0 x1 hm

/-! ### triage/probe.Begin -/
abbrev begin.ps : List AK := [.d true TQ, .d false (.int .i64)]
def begin.pre : ElA begin.ps → Bool := fun (x : (El TQ) × Int × Unit) => fits TQ (x.1) && (fits (.int .i64) (x.2.1) && (true))
noncomputable def begin.res : ElA begin.ps → IV := fun (x : (El TQ) × Int × Unit) => (fun p i => mkIV true (enc TQ (beginQ p i))) x.1 x.2.1
noncomputable def begin.sp : ISpec := spOf begin.ps begin.pre begin.res
abbrev begin.OK : Prop := SpecOK Tryd.prog 18 begin.sp
noncomputable def begin.body : Code := bodyOf Tryd.f18
noncomputable def begin.rs : List ResultVar := Tryd.f18.results.toList
def begin.live : List (Nat × Live) := []
noncomputable def begin.specs  : List (Nat × (List Bool × ISpec)) := []
noncomputable def begin.ospecs  : List (Nat × OS) := []
noncomputable def begin.cfg  : Cfg := ⟨lkp tab, lkp (begin.specs ), lkp begin.live, ⟨lkp (begin.ospecs ), [], none, false, []⟩⟩
noncomputable def begin.go  (m : Nat) (x0 : (El TQ)) (x1 : Int) : R := run (begin.cfg ) 8 begin.rs m [.code begin.body] (enter (ivA begin.ps (x0, x1, ())))
theorem begin.start  (m : Nat) (x0 : (El TQ)) (x1 : Int) : begin.go  (m + 1) x0 x1 =
  some ((.agg [(.v (.bool x0.1)), (.v (.int .i64 x0.2.1)), (.v (.int .i64 x0.2.2.1)), (.v (.int .i64 x1))]), []) := by kernel_rfl
theorem begin.run_eq  (m : Nat) (x0 : (El TQ)) (x1 : Int) : run (begin.cfg ) Tryd.f18.ntmps Tryd.f18.results.toList m [.code (bodyOf Tryd.f18)] (enter (ivA begin.ps (x0, x1, ()))) = begin.go  m x0 x1 := by kernel_rfl
theorem begin.ret  (hs : SpecsOK Tryd.prog (begin.specs ))  (x0 : (El TQ)) (x1 : Int) {m : Nat} {r : IV} (h : begin.go  m x0 x1 = some (r, [])) : VE.Returns Tryd.prog 18 (ivA begin.ps (x0, x1, ())) r :=
  returns_of_run (cfg := begin.cfg ) (cfgOK_of mixed tab_ok hs .nil) rfl Tryd.func18 (body_some (by kernel_rfl)) (Nat.le_of_ble_eq_true (by kernel_rfl)) ((begin.run_eq  m x0 x1).trans h)
abbrev begin.Law : Prop := ∀ (x0 : (El TQ)) (x1 : Int), begin.pre (x0, x1, ()) = true → VE.Returns Tryd.prog 18 (ivA begin.ps (x0, x1, ())) (begin.res (x0, x1, ()))
theorem begin.mkR (H : ∀ (x0 : (El TQ)) (x1 : Int), begin.pre (x0, x1, ()) = true → VE.Returns Tryd.prog 18 (ivA begin.ps (x0, x1, ())) (begin.res (x0, x1, ()))) : SpecOK Tryd.prog 18 begin.sp :=
  specOf_ret Tryd.func18 (by kernel_rfl) (by kernel_rfl) fun (x : (El TQ) × Int × Unit) hx => H (x.1) (x.2.1) hx
theorem begin.mk  (hs : SpecsOK Tryd.prog (begin.specs ))  (H : ∀ (x0 : (El TQ)) (x1 : Int), begin.pre (x0, x1, ()) = true → ∃ m, begin.go  m x0 x1 = some (begin.res (x0, x1, ()), [])) : SpecOK Tryd.prog 18 begin.sp :=
  begin.mkR fun x0 x1 hx => (H x0 x1 hx).elim fun _ hm => begin.ret  hs  x0 x1 hm

/-! ### triage/probe.End -/
abbrev endP.ps : List AK := [.d true TConfig, .d true TQ, .d false .bool]
def endP.pre : ElA endP.ps → Bool := fun (x : (El TConfig) × (El TQ) × Bool × Unit) => fits TConfig (x.1) && (fits TQ (x.2.1) && (fits .bool (x.2.2.1) && (true)))
noncomputable def endP.res : ElA endP.ps → IV := fun (x : (El TConfig) × (El TQ) × Bool × Unit) => (fun c p ok => .tup [mkIV true (enc TQ (endQ c p ok)), vi .i64 (endM c p ok)]) x.1 x.2.1 x.2.2.1
noncomputable def endP.sp : ISpec := spOf endP.ps endP.pre endP.res
abbrev endP.OK : Prop := SpecOK Tryd.prog 9 endP.sp
noncomputable def endP.body : Code := bodyOf Tryd.f9
noncomputable def endP.rs : List ResultVar := Tryd.f9.results.toList
def endP.live : List (Nat × Live) := []
noncomputable def endP.specs  : List (Nat × (List Bool × ISpec)) := [(19, ([], known.sp)), (20, ([], moved.sp))]
noncomputable def endP.ospecs  : List (Nat × OS) := []
noncomputable def endP.cfg  : Cfg := ⟨lkp tab, lkp (endP.specs ), lkp endP.live, ⟨lkp (endP.ospecs ), [], none, false, []⟩⟩
noncomputable def endP.go  (m : Nat) (x0 : (El TConfig)) (x1 : (El TQ)) (x2 : Bool) : R := run (endP.cfg ) 50 endP.rs m [.code endP.body] (enter (ivA endP.ps (x0, x1, x2, ())))
theorem endP.start  (m : Nat) (x0 : (El TConfig)) (x1 : (El TQ)) (x2 : Bool) : endP.go  (m + 1) x0 x1 x2 =
  test (known.pre (x0, Unit.unit)) (
   cond (x2 == x1.1) (
    some ((.tup [(.agg [(.v (.bool x1.1)), (.v (.int .i64 (0 : Int))), (.v (.int .i64 x1.2.2.1)), (.v (.int .i64 (0 : Int)))]), (.c (.v (.int .i64 (0 : Int))))]), [])) (
    cond (decide ((ite ((0 : Int) > x1.2.1) (0 : Int) x1.2.1) < (4611686018427387904 : Int))) (
     cond x1.1 (
      cond (decide ((IntKind.i64.wrap ((ite ((0 : Int) > x1.2.1) (0 : Int) x1.2.1) + (1 : Int))) ≥ ((((((heldC x0)).2).2).2).2).1)) (
       some ((.tup [(.agg [(.v (.bool (Bool.not x1.1))), (.v (.int .i64 (0 : Int))), (.v (.int .i64 x1.2.2.1)), (.v (.int .i64 (0 : Int)))]), (.c (.v (.int .i64 (movedI x1 ((Bool.not x1.1), ((0 : Int), (x1.2.2.1, (0 : Int))))))))]), [])) (
       some ((.tup [(.agg [(.v (.bool x1.1)), (.v (.int .i64 (IntKind.i64.wrap ((ite ((0 : Int) > x1.2.1) (0 : Int) x1.2.1) + (1 : Int))))), (.v (.int .i64 x1.2.2.1)), (.v (.int .i64 (0 : Int)))]), (.c (.v (.int .i64 (movedI x1 (x1.1, ((IntKind.i64.wrap ((ite ((0 : Int) > x1.2.1) (0 : Int) x1.2.1) + (1 : Int))), (x1.2.2.1, (0 : Int))))))))]), []))) (
      cond (decide ((IntKind.i64.wrap ((ite ((0 : Int) > x1.2.1) (0 : Int) x1.2.1) + (1 : Int))) ≥ (((((heldC x0)).2).2).2).1)) (
       some ((.tup [(.agg [(.v (.bool (Bool.not x1.1))), (.v (.int .i64 (0 : Int))), (.v (.int .i64 x1.2.2.1)), (.v (.int .i64 (0 : Int)))]), (.c (.v (.int .i64 (movedI x1 ((Bool.not x1.1), ((0 : Int), (x1.2.2.1, (0 : Int))))))))]), [])) (
       some ((.tup [(.agg [(.v (.bool x1.1)), (.v (.int .i64 (IntKind.i64.wrap ((ite ((0 : Int) > x1.2.1) (0 : Int) x1.2.1) + (1 : Int))))), (.v (.int .i64 x1.2.2.1)), (.v (.int .i64 (0 : Int)))]), (.c (.v (.int .i64 (movedI x1 (x1.1, ((IntKind.i64.wrap ((ite ((0 : Int) > x1.2.1) (0 : Int) x1.2.1) + (1 : Int))), (x1.2.2.1, (0 : Int))))))))]), [])))) (
     cond x1.1 (
      cond (decide ((ite ((0 : Int) > x1.2.1) (0 : Int) x1.2.1) ≥ ((((((heldC x0)).2).2).2).2).1)) (
       some ((.tup [(.agg [(.v (.bool (Bool.not x1.1))), (.v (.int .i64 (0 : Int))), (.v (.int .i64 x1.2.2.1)), (.v (.int .i64 (0 : Int)))]), (.c (.v (.int .i64 (movedI x1 ((Bool.not x1.1), ((0 : Int), (x1.2.2.1, (0 : Int))))))))]), [])) (
       some ((.tup [(.agg [(.v (.bool x1.1)), (.v (.int .i64 (ite ((0 : Int) > x1.2.1) (0 : Int) x1.2.1))), (.v (.int .i64 x1.2.2.1)), (.v (.int .i64 (0 : Int)))]), (.c (.v (.int .i64 (movedI x1 (x1.1, ((ite ((0 : Int) > x1.2.1) (0 : Int) x1.2.1), (x1.2.2.1, (0 : Int))))))))]), []))) (
      cond (decide ((ite ((0 : Int) > x1.2.1) (0 : Int) x1.2.1) ≥ (((((heldC x0)).2).2).2).1)) (
       some ((.tup [(.agg [(.v (.bool (Bool.not x1.1))), (.v (.int .i64 (0 : Int))), (.v (.int .i64 x1.2.2.1)), (.v (.int .i64 (0 : Int)))]), (.c (.v (.int .i64 (movedI x1 ((Bool.not x1.1), ((0 : Int), (x1.2.2.1, (0 : Int))))))))]), [])) (
       some ((.tup [(.agg [(.v (.bool x1.1)), (.v (.int .i64 (ite ((0 : Int) > x1.2.1) (0 : Int) x1.2.1))), (.v (.int .i64 x1.2.2.1)), (.v (.int .i64 (0 : Int)))]), (.c (.v (.int .i64 (movedI x1 (x1.1, ((ite ((0 : Int) > x1.2.1) (0 : Int) x1.2.1), (x1.2.2.1, (0 : Int))))))))]), [])))))) := by kernel_rfl
theorem endP.run_eq  (m : Nat) (x0 : (El TConfig)) (x1 : (El TQ)) (x2 : Bool) : run (endP.cfg ) Tryd.f9.ntmps Tryd.f9.results.toList m [.code (bodyOf Tryd.f9)] (enter (ivA endP.ps (x0, x1, x2, ()))) = endP.go  m x0 x1 x2 := by kernel_rfl
theorem endP.ret  (hs : SpecsOK Tryd.prog (endP.specs ))  (x0 : (El TConfig)) (x1 : (El TQ)) (x2 : Bool) {m : Nat} {r : IV} (h : endP.go  m x0 x1 x2 = some (r, [])) : VE.Returns Tryd.prog 9 (ivA endP.ps (x0, x1, x2, ())) r :=
  returns_of_run (cfg := endP.cfg ) (cfgOK_of mixed tab_ok hs .nil) rfl Tryd.func9 (body_some (by kernel_rfl)) (Nat.le_of_ble_eq_true (by kernel_rfl)) ((endP.run_eq  m x0 x1 x2).trans h)
abbrev endP.Law : Prop := ∀ (x0 : (El TConfig)) (x1 : (El TQ)) (x2 : Bool), endP.pre (x0, x1, x2, ()) = true → VE.Returns Tryd.prog 9 (ivA endP.ps (x0, x1, x2, ())) (endP.res (x0, x1, x2, ()))
theorem endP.mkR (H : ∀ (x0 : (El TConfig)) (x1 : (El TQ)) (x2 : Bool), endP.pre (x0, x1, x2, ()) = true → VE.Returns Tryd.prog 9 (ivA endP.ps (x0, x1, x2, ())) (endP.res (x0, x1, x2, ()))) : SpecOK Tryd.prog 9 endP.sp :=
  specOf_ret Tryd.func9 (by kernel_rfl) (by kernel_rfl) fun (x : (El TConfig) × (El TQ) × Bool × Unit) hx => H (x.1) (x.2.1) (x.2.2.1) hx
theorem endP.mk  (hs : SpecsOK Tryd.prog (endP.specs ))  (H : ∀ (x0 : (El TConfig)) (x1 : (El TQ)) (x2 : Bool), endP.pre (x0, x1, x2, ()) = true → ∃ m, endP.go  m x0 x1 x2 = some (endP.res (x0, x1, x2, ()), [])) : SpecOK Tryd.prog 9 endP.sp :=
  endP.mkR fun x0 x1 x2 hx => (H x0 x1 x2 hx).elim fun _ hm => endP.ret  hs  x0 x1 x2 hm

/-! ### triage/probe.Force -/
abbrev force.ps : List AK := [.d true TQ, .d false (.int .i64)]
def force.pre : ElA force.ps → Bool := fun (x : (El TQ) × Int × Unit) => fits TQ (x.1) && (fits (.int .i64) (x.2.1) && (true))
noncomputable def force.res : ElA force.ps → IV := fun (x : (El TQ) × Int × Unit) => (fun p how => .tup [mkIV true (enc TQ (forceQ p how)), vi .i64 (forceM p how)]) x.1 x.2.1
noncomputable def force.sp : ISpec := spOf force.ps force.pre force.res
abbrev force.OK : Prop := SpecOK Tryd.prog 12 force.sp
noncomputable def force.body : Code := bodyOf Tryd.f12
noncomputable def force.rs : List ResultVar := Tryd.f12.results.toList
def force.live : List (Nat × Live) := []
noncomputable def force.specs  : List (Nat × (List Bool × ISpec)) := [(20, ([], moved.sp))]
noncomputable def force.ospecs  : List (Nat × OS) := []
noncomputable def force.cfg  : Cfg := ⟨lkp tab, lkp (force.specs ), lkp force.live, ⟨lkp (force.ospecs ), [], none, false, []⟩⟩
noncomputable def force.go  (m : Nat) (x0 : (El TQ)) (x1 : Int) : R := run (force.cfg ) 21 force.rs m [.code force.body] (enter (ivA force.ps (x0, x1, ())))
theorem force.start  (m : Nat) (x0 : (El TQ)) (x1 : Int) : force.go  (m + 1) x0 x1 =
  cond (decide (x1 < (0 : Int))) (
   some ((.tup [(.agg [(.v (.bool x0.1)), (.v (.int .i64 x0.2.1)), (.v (.int .i64 x0.2.2.1)), (.v (.int .i64 x0.2.2.2))]), (.c (.v (.int .i64 (0 : Int))))]), [])) (
   cond (decide (x1 > (2 : Int))) (
    some ((.tup [(.agg [(.v (.bool x0.1)), (.v (.int .i64 x0.2.1)), (.v (.int .i64 x0.2.2.1)), (.v (.int .i64 x0.2.2.2))]), (.c (.v (.int .i64 (0 : Int))))]), [])) (
    some ((.tup [(.agg [(.v (.bool x0.1)), (.v (.int .i64 x0.2.1)), (.v (.int .i64 x1)), (.v (.int .i64 x0.2.2.2))]), (.c (.v (.int .i64 (movedI x0 (x0.1, (x0.2.1, (x1, x0.2.2.2)))))))]), []))) := by kernel_rfl
theorem force.run_eq  (m : Nat) (x0 : (El TQ)) (x1 : Int) : run (force.cfg ) Tryd.f12.ntmps Tryd.f12.results.toList m [.code (bodyOf Tryd.f12)] (enter (ivA force.ps (x0, x1, ()))) = force.go  m x0 x1 := by kernel_rfl
theorem force.ret  (hs : SpecsOK Tryd.prog (force.specs ))  (x0 : (El TQ)) (x1 : Int) {m : Nat} {r : IV} (h : force.go  m x0 x1 = some (r, [])) : VE.Returns Tryd.prog 12 (ivA force.ps (x0, x1, ())) r :=
  returns_of_run (cfg := force.cfg ) (cfgOK_of mixed tab_ok hs .nil) rfl Tryd.func12 (body_some (by kernel_rfl)) (Nat.le_of_ble_eq_true (by kernel_rfl)) ((force.run_eq  m x0 x1).trans h)
abbrev force.Law : Prop := ∀ (x0 : (El TQ)) (x1 : Int), force.pre (x0, x1, ()) = true → VE.Returns Tryd.prog 12 (ivA force.ps (x0, x1, ())) (force.res (x0, x1, ()))
theorem force.mkR (H : ∀ (x0 : (El TQ)) (x1 : Int), force.pre (x0, x1, ()) = true → VE.Returns Tryd.prog 12 (ivA force.ps (x0, x1, ())) (force.res (x0, x1, ()))) : SpecOK Tryd.prog 12 force.sp :=
  specOf_ret Tryd.func12 (by kernel_rfl) (by kernel_rfl) fun (x : (El TQ) × Int × Unit) hx => H (x.1) (x.2.1) hx
theorem force.mk  (hs : SpecsOK Tryd.prog (force.specs ))  (H : ∀ (x0 : (El TQ)) (x1 : Int), force.pre (x0, x1, ()) = true → ∃ m, force.go  m x0 x1 = some (force.res (x0, x1, ()), [])) : SpecOK Tryd.prog 12 force.sp :=
  force.mkR fun x0 x1 hx => (H x0 x1 hx).elim fun _ hm => force.ret  hs  x0 x1 hm

/-! ### triage/probe.Wait -/
abbrev wait.ps : List AK := [.d true TConfig, .d false (.int .i64), .d false (.int .i64)]
def wait.pre : ElA wait.ps → Bool := fun (x : (El TConfig) × Int × Int × Unit) => fits TConfig (x.1) && (fits (.int .i64) (x.2.1) && (fits (.int .i64) (x.2.2.1) && ((fun _ h i => decide (-9223372036854775808 ≤ h ∧ h ≤ 9223372036854775807 ∧ -9223372036854775808 ≤ i ∧ i ≤ 9223372036854775807)) x.1 x.2.1 x.2.2.1 && (true))))
noncomputable def wait.res : ElA wait.ps → IV := fun (x : (El TConfig) × Int × Int × Unit) => (fun c h i => vi .i64 (waitI c h i)) x.1 x.2.1 x.2.2.1
noncomputable def wait.sp : ISpec := spOf wait.ps wait.pre wait.res
abbrev wait.OK : Prop := SpecOK Tryd.prog 13 wait.sp
noncomputable def wait.body : Code := bodyOf Tryd.f13
noncomputable def wait.rs : List ResultVar := Tryd.f13.results.toList
def wait.live : List (Nat × Live) := []
noncomputable def wait.specs  : List (Nat × (List Bool × ISpec)) := [(19, ([], known.sp)), (23, ([], itoa.sp)), (22, ([], with.sp)), (21, ([], below.sp))]
noncomputable def wait.ospecs  : List (Nat × OS) := []
noncomputable def wait.cfg  : Cfg := ⟨lkp tab, lkp (wait.specs ), lkp wait.live, ⟨lkp (wait.ospecs ), [], none, false, []⟩⟩
noncomputable def wait.go  (m : Nat) (x0 : (El TConfig)) (x1 : Int) (x2 : Int) : R := run (wait.cfg ) 20 wait.rs m [.code wait.body] (enter (ivA wait.ps (x0, x1, x2, ())))
theorem wait.start  (m : Nat) (x0 : (El TConfig)) (x1 : Int) (x2 : Int) : wait.go  (m + 1) x0 x1 x2 =
  test (known.pre (x0, Unit.unit)) (
   test (itoa.pre (x1, Unit.unit)) (
    test (with.pre ((itoaB x1), (x2, Unit.unit))) (
     test (below.pre ((withN (itoaB x1) x2), ((IntKind.i64.wrap (((((heldC x0)).2).2).1 + (1 : Int))), Unit.unit))) (
      some ((.c (.v (.int .i64 (IntKind.i64.wrap (((heldC x0)).1 + (belowN (withN (itoaB x1) x2) (IntKind.i64.wrap (((((heldC x0)).2).2).1 + (1 : Int))))))))), []))))) := by kernel_rfl
theorem wait.run_eq  (m : Nat) (x0 : (El TConfig)) (x1 : Int) (x2 : Int) : run (wait.cfg ) Tryd.f13.ntmps Tryd.f13.results.toList m [.code (bodyOf Tryd.f13)] (enter (ivA wait.ps (x0, x1, x2, ()))) = wait.go  m x0 x1 x2 := by kernel_rfl
theorem wait.ret  (hs : SpecsOK Tryd.prog (wait.specs ))  (x0 : (El TConfig)) (x1 : Int) (x2 : Int) {m : Nat} {r : IV} (h : wait.go  m x0 x1 x2 = some (r, [])) : VE.Returns Tryd.prog 13 (ivA wait.ps (x0, x1, x2, ())) r :=
  returns_of_run (cfg := wait.cfg ) (cfgOK_of mixed tab_ok hs .nil) rfl Tryd.func13 (body_some (by kernel_rfl)) (Nat.le_of_ble_eq_true (by kernel_rfl)) ((wait.run_eq  m x0 x1 x2).trans h)
abbrev wait.Law : Prop := ∀ (x0 : (El TConfig)) (x1 : Int) (x2 : Int), wait.pre (x0, x1, x2, ()) = true → VE.Returns Tryd.prog 13 (ivA wait.ps (x0, x1, x2, ())) (wait.res (x0, x1, x2, ()))
theorem wait.mkR (H : ∀ (x0 : (El TConfig)) (x1 : Int) (x2 : Int), wait.pre (x0, x1, x2, ()) = true → VE.Returns Tryd.prog 13 (ivA wait.ps (x0, x1, x2, ())) (wait.res (x0, x1, x2, ()))) : SpecOK Tryd.prog 13 wait.sp :=
  specOf_ret Tryd.func13 (by kernel_rfl) (by kernel_rfl) fun (x : (El TConfig) × Int × Int × Unit) hx => H (x.1) (x.2.1) (x.2.2.1) hx
theorem wait.mk  (hs : SpecsOK Tryd.prog (wait.specs ))  (H : ∀ (x0 : (El TConfig)) (x1 : Int) (x2 : Int), wait.pre (x0, x1, x2, ()) = true → ∃ m, wait.go  m x0 x1 x2 = some (wait.res (x0, x1, x2, ()), [])) : SpecOK Tryd.prog 13 wait.sp :=
  wait.mkR fun x0 x1 x2 hx => (H x0 x1 x2 hx).elim fun _ hm => wait.ret  hs  x0 x1 x2 hm

/-! ### triage/triagelaw10.awake -/
abbrev awake.ps : List AK := []
def awake.pre : ElA awake.ps → Bool := fun (x : Unit) => true
noncomputable def awake.res : ElA awake.ps → IV := fun (x : Unit) => (vb true) 
noncomputable def awake.sp : ISpec := spOf awake.ps awake.pre awake.res
abbrev awake.OK : Prop := SpecOK Tryd.prog 8 awake.sp
noncomputable def awake.body : Code := bodyOf Tryd.f8
noncomputable def awake.rs : List ResultVar := Tryd.f8.results.toList
def awake.live : List (Nat × Live) := []
noncomputable def awake.specs  : List (Nat × (List Bool × ISpec)) := [(17, ([], cDef.sp)), (11, ([], newP.sp)), (9, ([], endP.sp)), (12, ([], force.sp)), (10, ([], well.sp)), (18, ([], begin.sp)), (13, ([], wait.sp))]
noncomputable def awake.ospecs  : List (Nat × OS) := []
noncomputable def awake.cfg  : Cfg := ⟨lkp tab, lkp (awake.specs ), lkp awake.live, ⟨lkp (awake.ospecs ), [], none, false, []⟩⟩
noncomputable def awake.go  (m : Nat)  : R := run (awake.cfg ) 66 awake.rs m [.code awake.body] (enter (ivA awake.ps ()))
theorem awake.start  (m : Nat)  : awake.go  (m + 1)  =
  some ((.c (.v (.bool ((waitI defC (1 : Int) (1 : Int)) == (100 : Int))))), []) := by kernel_rfl
theorem awake.run_eq  (m : Nat)  : run (awake.cfg ) Tryd.f8.ntmps Tryd.f8.results.toList m [.code (bodyOf Tryd.f8)] (enter (ivA awake.ps ())) = awake.go  m  := by kernel_rfl
theorem awake.ret  (hs : SpecsOK Tryd.prog (awake.specs ))   {m : Nat} {r : IV} (h : awake.go  m  = some (r, [])) : VE.Returns Tryd.prog 8 (ivA awake.ps ()) r :=
  returns_of_run (cfg := awake.cfg ) (cfgOK_of mixed tab_ok hs .nil) rfl Tryd.func8 (body_some (by kernel_rfl)) (Nat.le_of_ble_eq_true (by kernel_rfl)) ((awake.run_eq  m ).trans h)
abbrev awake.Law : Prop := ∀ (_ : Unit), awake.pre () = true → VE.Returns Tryd.prog 8 (ivA awake.ps ()) (awake.res ())
theorem awake.mkR (H : ∀ (_ : Unit), awake.pre () = true → VE.Returns Tryd.prog 8 (ivA awake.ps ()) (awake.res ())) : SpecOK Tryd.prog 8 awake.sp :=
  specOf_ret Tryd.func8 (by kernel_rfl) (by kernel_rfl) fun (x : Unit) hx => H () hx
theorem awake.mk  (hs : SpecsOK Tryd.prog (awake.specs ))  (H : ∀ (_ : Unit), awake.pre () = true → ∃ m, awake.go  m  = some (awake.res (), [])) : SpecOK Tryd.prog 8 awake.sp :=
  awake.mkR fun _ hx => (H () hx).elim fun _ hm => awake.ret  hs   hm

/-! ### triage/triagelaw10.ProbeRises -/
abbrev lRises.ps : List AK := [.d true TConfig, .d true TQ, .d false (.sl .bool), .d false .bool, .d false (.int .i64)]
def lRises.pre : ElA lRises.ps → Bool := fun (x : (El TConfig) × (El TQ) × (List Bool) × Bool × Int × Unit) => fits TConfig (x.1) && (fits TQ (x.2.1) && (fits (.sl .bool) (x.2.2.1) && (fits .bool (x.2.2.2.1) && (fits (.int .i64) (x.2.2.2.2.1) && (true)))))
noncomputable def lRises.res : ElA lRises.ps → IV := fun (x : (El TConfig) × (El TQ) × (List Bool) × Bool × Int × Unit) => (fun _ _ _ _ _ => vb true) x.1 x.2.1 x.2.2.1 x.2.2.2.1 x.2.2.2.2.1
noncomputable def lRises.sp : ISpec := spOf lRises.ps lRises.pre lRises.res
abbrev lRises.OK : Prop := SpecOK Tryd.prog 3 lRises.sp
noncomputable def lRises.body : Code := bodyOf Tryd.f3
noncomputable def lRises.rs : List ResultVar := Tryd.f3.results.toList
def lRises.live : List (Nat × Live) := [(14, ⟨[(3, .plain), (5, .plain), (6, .plain), (13, .plain), (14, .plain), (15, .plain), (54, .plain), (55, .plain)], [(1, []), (3, [])]⟩), (4, ⟨[(3, .plain), (4, .plain), (5, .plain), (6, .plain), (28, .sl .bool), (29, .plain), (30, .plain)], [(1, []), (3, [])]⟩)]
noncomputable def lRises.specs  : List (Nat × (List Bool × ISpec)) := [(8, ([], awake.sp)), (7, ([], mayCR.sp)), (9, ([], endP.sp)), (10, ([], well.sp))]
noncomputable def lRises.ospecs  : List (Nat × OS) := []
noncomputable def lRises.cfg  : Cfg := ⟨lkp tab, lkp (lRises.specs ), lkp lRises.live, ⟨lkp (lRises.ospecs ), [], none, false, []⟩⟩
noncomputable def lRises.l1  (m : Nat) (x0 : Bool) (x1 : Int) (x2 : List Bool) (x3 : Int) (x4 : Int) (x5 : Int) (x6 : Int) (x7 : Int) (x8 : Int) (x9 : Int) (x10 : Int) (x11 : Int) (x12 : Int) (x13 : Int) (x14 : Int) (x15 : Int) (x16 : Int) (x17 : Int) (x18 : Int) (x19 : Int) (x20 : Bool) (x21 : Int) (x22 : Int) (x23 : Int) (x24 : Int) (x25 : Int) (x26 : ByteArray) (x27 : Bool) (x28 : Bool) (x29 : Int) (x30 : Int) (x31 : Int) : R := run (lRises.cfg ) 134 lRises.rs m ((todoR 4 lRises.body []).getD []) ⟨ofList (.c .junk) [(3, (.c (.v (.bool x0)))), (4, (.c (.v (.int .i64 x1)))), (5, (.c (.ref 1 0))), (6, (.c (.ref 3 0))), (28, (.c (.sl .bool x2))), (29, (.c (.v (.int .i64 x3)))), (30, (.c (.v (.int .i64 x4))))], ofList none [(1, some (.cells 23 [(.v (.int .i64 x5)), (.v (.int .i64 x6)), (.v (.int .i64 x7)), (.v (.int .i64 x8)), (.v (.int .i64 x9)), (.v (.int .i64 x10)), (.v (.int .i64 x11)), (.v (.int .i64 x12)), (.v (.int .i64 x13)), (.v (.int .i64 x14)), (.v (.int .i64 x15)), (.v (.int .i64 x16)), (.v (.int .i64 x17)), (.v (.int .i64 x18)), (.v (.int .i64 x19)), (.v (.bool x20)), (.v (.int .i64 x21)), (.v (.int .i64 x22)), (.v (.int .i64 x23)), (.v (.int .i64 x24)), (.v (.int .i64 x25)), (.v (.string x26)), (.v (.bool x27))])), (3, some (.cells 25 [(.v (.bool x28)), (.v (.int .i64 x29)), (.v (.int .i64 x30)), (.v (.int .i64 x31))]))], ofList false [(1, true), (3, true)]⟩
noncomputable def lRises.l2  (m : Nat) (x0 : Bool) (x1 : Int) (x2 : Bool) (x3 : Int) (x4 : Int) (x5 : Int) (x6 : Int) (x7 : Int) (x8 : Int) (x9 : Int) (x10 : Int) (x11 : Int) (x12 : Int) (x13 : Int) (x14 : Int) (x15 : Int) (x16 : Int) (x17 : Int) (x18 : Int) (x19 : Int) (x20 : Int) (x21 : Bool) (x22 : Int) (x23 : Int) (x24 : Int) (x25 : Int) (x26 : Int) (x27 : ByteArray) (x28 : Bool) (x29 : Bool) (x30 : Int) (x31 : Int) (x32 : Int) : R := run (lRises.cfg ) 134 lRises.rs m ((todoR 14 lRises.body []).getD []) ⟨ofList (.c .junk) [(3, (.c (.v (.bool x0)))), (5, (.c (.ref 1 0))), (6, (.c (.ref 3 0))), (13, (.c (.v (.int .i64 x1)))), (14, (.c (.v (.bool x2)))), (15, (.c (.v (.int .i64 x3)))), (54, (.c (.v (.int .i64 x4)))), (55, (.c (.v (.int .i64 x5))))], ofList none [(1, some (.cells 23 [(.v (.int .i64 x6)), (.v (.int .i64 x7)), (.v (.int .i64 x8)), (.v (.int .i64 x9)), (.v (.int .i64 x10)), (.v (.int .i64 x11)), (.v (.int .i64 x12)), (.v (.int .i64 x13)), (.v (.int .i64 x14)), (.v (.int .i64 x15)), (.v (.int .i64 x16)), (.v (.int .i64 x17)), (.v (.int .i64 x18)), (.v (.int .i64 x19)), (.v (.int .i64 x20)), (.v (.bool x21)), (.v (.int .i64 x22)), (.v (.int .i64 x23)), (.v (.int .i64 x24)), (.v (.int .i64 x25)), (.v (.int .i64 x26)), (.v (.string x27)), (.v (.bool x28))])), (3, some (.cells 25 [(.v (.bool x29)), (.v (.int .i64 x30)), (.v (.int .i64 x31)), (.v (.int .i64 x32))]))], ofList false [(1, true), (3, true)]⟩
noncomputable def lRises.go  (m : Nat) (x0 : (El TConfig)) (x1 : (El TQ)) (x2 : (List Bool)) (x3 : Bool) (x4 : Int) : R := run (lRises.cfg ) 134 lRises.rs m [.code lRises.body] (enter (ivA lRises.ps (x0, x1, x2, x3, x4, ())))
theorem lRises.start  (m : Nat) (x0 : (El TConfig)) (x1 : (El TQ)) (x2 : (List Bool)) (x3 : Bool) (x4 : Int) : lRises.go  (m + 1) x0 x1 x2 x3 x4 =
  cond (decide (((List.length x2) : Int) > (100 : Int))) (
   some ((.c (.v (.bool true))), [])) (
   test (mayCR.pre (x0, Unit.unit)) (
    cond (Bool.not (mayC x0)) (
     some ((.c (.v (.bool true))), [])) (
     lRises.l1  m x3 x4 x2 ((List.length x2) : Int) (0 : Int) x0.1 x0.2.1 x0.2.2.1 x0.2.2.2.1 x0.2.2.2.2.1 x0.2.2.2.2.2.1 x0.2.2.2.2.2.2.1 x0.2.2.2.2.2.2.2.1 x0.2.2.2.2.2.2.2.2.1 x0.2.2.2.2.2.2.2.2.2.1 x0.2.2.2.2.2.2.2.2.2.2.1 x0.2.2.2.2.2.2.2.2.2.2.2.1 x0.2.2.2.2.2.2.2.2.2.2.2.2.1 x0.2.2.2.2.2.2.2.2.2.2.2.2.2.1 x0.2.2.2.2.2.2.2.2.2.2.2.2.2.2.1 x0.2.2.2.2.2.2.2.2.2.2.2.2.2.2.2.1 x0.2.2.2.2.2.2.2.2.2.2.2.2.2.2.2.2.1 x0.2.2.2.2.2.2.2.2.2.2.2.2.2.2.2.2.2.1 x0.2.2.2.2.2.2.2.2.2.2.2.2.2.2.2.2.2.2.1 x0.2.2.2.2.2.2.2.2.2.2.2.2.2.2.2.2.2.2.2.1 x0.2.2.2.2.2.2.2.2.2.2.2.2.2.2.2.2.2.2.2.2.1 x0.2.2.2.2.2.2.2.2.2.2.2.2.2.2.2.2.2.2.2.2.2.1 x0.2.2.2.2.2.2.2.2.2.2.2.2.2.2.2.2.2.2.2.2.2.2 x1.1 x1.2.1 x1.2.2.1 x1.2.2.2))) := by kernel_rfl
theorem lRises.s1  (m : Nat) (x0 : Bool) (x1 : Int) (x2 : List Bool) (x3 : Int) (x4 : Int) (x5 : Int) (x6 : Int) (x7 : Int) (x8 : Int) (x9 : Int) (x10 : Int) (x11 : Int) (x12 : Int) (x13 : Int) (x14 : Int) (x15 : Int) (x16 : Int) (x17 : Int) (x18 : Int) (x19 : Int) (x20 : Bool) (x21 : Int) (x22 : Int) (x23 : Int) (x24 : Int) (x25 : Int) (x26 : ByteArray) (x27 : Bool) (x28 : Bool) (x29 : Int) (x30 : Int) (x31 : Int) : lRises.l1  (m + 1) x0 x1 x2 x3 x4 x5 x6 x7 x8 x9 x10 x11 x12 x13 x14 x15 x16 x17 x18 x19 x20 x21 x22 x23 x24 x25 x26 x27 x28 x29 x30 x31 =
  cond (decide (x4 < x3)) (
   test (decide ((0 : Int) ≤ x4)) (
    test (decide (x4 < ((List.length x2) : Int))) (
     test (endP.pre ((x5, (x6, (x7, (x8, (x9, (x10, (x11, (x12, (x13, (x14, (x15, (x16, (x17, (x18, (x19, (x20, (x21, (x22, (x23, (x24, (x25, (x26, x27)))))))))))))))))))))), ((x28, (x29, (x30, x31))), ((rdEl .bool x2 (Int.toNat x4)), Unit.unit)))) (
      lRises.l1  m x0 x1 x2 x3 (IntKind.i64.wrap (x4 + (1 : Int))) x5 x6 x7 x8 x9 x10 x11 x12 x13 x14 x15 x16 x17 x18 x19 x20 x21 x22 x23 x24 x25 x26 x27 ((endQ (x5, (x6, (x7, (x8, (x9, (x10, (x11, (x12, (x13, (x14, (x15, (x16, (x17, (x18, (x19, (x20, (x21, (x22, (x23, (x24, (x25, (x26, x27)))))))))))))))))))))) (x28, (x29, (x30, x31))) (rdEl .bool x2 (Int.toNat x4)))).1 (((endQ (x5, (x6, (x7, (x8, (x9, (x10, (x11, (x12, (x13, (x14, (x15, (x16, (x17, (x18, (x19, (x20, (x21, (x22, (x23, (x24, (x25, (x26, x27)))))))))))))))))))))) (x28, (x29, (x30, x31))) (rdEl .bool x2 (Int.toNat x4)))).2).1 ((((endQ (x5, (x6, (x7, (x8, (x9, (x10, (x11, (x12, (x13, (x14, (x15, (x16, (x17, (x18, (x19, (x20, (x21, (x22, (x23, (x24, (x25, (x26, x27)))))))))))))))))))))) (x28, (x29, (x30, x31))) (rdEl .bool x2 (Int.toNat x4)))).2).2).1 ((((endQ (x5, (x6, (x7, (x8, (x9, (x10, (x11, (x12, (x13, (x14, (x15, (x16, (x17, (x18, (x19, (x20, (x21, (x22, (x23, (x24, (x25, (x26, x27)))))))))))))))))))))) (x28, (x29, (x30, x31))) (rdEl .bool x2 (Int.toNat x4)))).2).2).2)))) (
   cond x0 (
    lRises.l2  m x0 x8 (wellB (x28, (x29, (x30, x31)))) (0 : Int) (IntKind.i64.wrap (x8 + (IntKind.i64.wrap (Int.tmod (IntKind.u64.wrap x1) (20 : Int))))) (0 : Int) x5 x6 x7 x8 x9 x10 x11 x12 x13 x14 x15 x16 x17 x18 x19 x20 x21 x22 x23 x24 x25 x26 x27 x28 x29 x30 x31) (
    lRises.l2  m x0 x9 (wellB (x28, (x29, (x30, x31)))) (0 : Int) (IntKind.i64.wrap (x9 + (IntKind.i64.wrap (Int.tmod (IntKind.u64.wrap x1) (20 : Int))))) (0 : Int) x5 x6 x7 x8 x9 x10 x11 x12 x13 x14 x15 x16 x17 x18 x19 x20 x21 x22 x23 x24 x25 x26 x27 x28 x29 x30 x31)) := by kernel_rfl
theorem lRises.s2  (m : Nat) (x0 : Bool) (x1 : Int) (x2 : Bool) (x3 : Int) (x4 : Int) (x5 : Int) (x6 : Int) (x7 : Int) (x8 : Int) (x9 : Int) (x10 : Int) (x11 : Int) (x12 : Int) (x13 : Int) (x14 : Int) (x15 : Int) (x16 : Int) (x17 : Int) (x18 : Int) (x19 : Int) (x20 : Int) (x21 : Bool) (x22 : Int) (x23 : Int) (x24 : Int) (x25 : Int) (x26 : Int) (x27 : ByteArray) (x28 : Bool) (x29 : Bool) (x30 : Int) (x31 : Int) (x32 : Int) : lRises.l2  (m + 1) x0 x1 x2 x3 x4 x5 x6 x7 x8 x9 x10 x11 x12 x13 x14 x15 x16 x17 x18 x19 x20 x21 x22 x23 x24 x25 x26 x27 x28 x29 x30 x31 x32 =
  cond (decide (x5 < x4)) (
   test (endP.pre ((x6, (x7, (x8, (x9, (x10, (x11, (x12, (x13, (x14, (x15, (x16, (x17, (x18, (x19, (x20, (x21, (x22, (x23, (x24, (x25, (x26, (x27, x28)))))))))))))))))))))), ((x29, (x30, (x31, x32))), (x0, Unit.unit)))) (
    cond (Bool.not ((bne (endM (x6, (x7, (x8, (x9, (x10, (x11, (x12, (x13, (x14, (x15, (x16, (x17, (x18, (x19, (x20, (x21, (x22, (x23, (x24, (x25, (x26, (x27, x28)))))))))))))))))))))) (x29, (x30, (x31, x32))) x0) (0 : Int)) == (Bool.not ((wellB ((endQ (x6, (x7, (x8, (x9, (x10, (x11, (x12, (x13, (x14, (x15, (x16, (x17, (x18, (x19, (x20, (x21, (x22, (x23, (x24, (x25, (x26, (x27, x28)))))))))))))))))))))) (x29, (x30, (x31, x32))) x0))) == (wellB (x29, (x30, (x31, x32)))))))) (
     some ((.c (.v (.bool false))), [])) (
     cond (bne (endM (x6, (x7, (x8, (x9, (x10, (x11, (x12, (x13, (x14, (x15, (x16, (x17, (x18, (x19, (x20, (x21, (x22, (x23, (x24, (x25, (x26, (x27, x28)))))))))))))))))))))) (x29, (x30, (x31, x32))) x0) (0 : Int)) (
      cond (bne (endM (x6, (x7, (x8, (x9, (x10, (x11, (x12, (x13, (x14, (x15, (x16, (x17, (x18, (x19, (x20, (x21, (x22, (x23, (x24, (x25, (x26, (x27, x28)))))))))))))))))))))) (x29, (x30, (x31, x32))) x0) (1 : Int)) (
       cond (bne (endM (x6, (x7, (x8, (x9, (x10, (x11, (x12, (x13, (x14, (x15, (x16, (x17, (x18, (x19, (x20, (x21, (x22, (x23, (x24, (x25, (x26, (x27, x28)))))))))))))))))))))) (x29, (x30, (x31, x32))) x0) (2 : Int)) (
        some ((.c (.v (.bool false))), [])) (
        cond (decide (x5 ≥ x1)) (
         cond (bne (endM (x6, (x7, (x8, (x9, (x10, (x11, (x12, (x13, (x14, (x15, (x16, (x17, (x18, (x19, (x20, (x21, (x22, (x23, (x24, (x25, (x26, (x27, x28)))))))))))))))))))))) (x29, (x30, (x31, x32))) x0) (0 : Int)) (
          some ((.c (.v (.bool false))), [])) (
          cond (bne (endM (x6, (x7, (x8, (x9, (x10, (x11, (x12, (x13, (x14, (x15, (x16, (x17, (x18, (x19, (x20, (x21, (x22, (x23, (x24, (x25, (x26, (x27, x28)))))))))))))))))))))) (x29, (x30, (x31, x32))) x0) (0 : Int)) (
           lRises.l2  m x0 x1 x2 (IntKind.i64.wrap (x3 + (1 : Int))) x4 (IntKind.i64.wrap (x5 + (1 : Int))) x6 x7 x8 x9 x10 x11 x12 x13 x14 x15 x16 x17 x18 x19 x20 x21 x22 x23 x24 x25 x26 x27 x28 ((endQ (x6, (x7, (x8, (x9, (x10, (x11, (x12, (x13, (x14, (x15, (x16, (x17, (x18, (x19, (x20, (x21, (x22, (x23, (x24, (x25, (x26, (x27, x28)))))))))))))))))))))) (x29, (x30, (x31, x32))) x0)).1 (((endQ (x6, (x7, (x8, (x9, (x10, (x11, (x12, (x13, (x14, (x15, (x16, (x17, (x18, (x19, (x20, (x21, (x22, (x23, (x24, (x25, (x26, (x27, x28)))))))))))))))))))))) (x29, (x30, (x31, x32))) x0)).2).1 ((((endQ (x6, (x7, (x8, (x9, (x10, (x11, (x12, (x13, (x14, (x15, (x16, (x17, (x18, (x19, (x20, (x21, (x22, (x23, (x24, (x25, (x26, (x27, x28)))))))))))))))))))))) (x29, (x30, (x31, x32))) x0)).2).2).1 ((((endQ (x6, (x7, (x8, (x9, (x10, (x11, (x12, (x13, (x14, (x15, (x16, (x17, (x18, (x19, (x20, (x21, (x22, (x23, (x24, (x25, (x26, (x27, x28)))))))))))))))))))))) (x29, (x30, (x31, x32))) x0)).2).2).2) (
           lRises.l2  m x0 x1 x2 x3 x4 (IntKind.i64.wrap (x5 + (1 : Int))) x6 x7 x8 x9 x10 x11 x12 x13 x14 x15 x16 x17 x18 x19 x20 x21 x22 x23 x24 x25 x26 x27 x28 ((endQ (x6, (x7, (x8, (x9, (x10, (x11, (x12, (x13, (x14, (x15, (x16, (x17, (x18, (x19, (x20, (x21, (x22, (x23, (x24, (x25, (x26, (x27, x28)))))))))))))))))))))) (x29, (x30, (x31, x32))) x0)).1 (((endQ (x6, (x7, (x8, (x9, (x10, (x11, (x12, (x13, (x14, (x15, (x16, (x17, (x18, (x19, (x20, (x21, (x22, (x23, (x24, (x25, (x26, (x27, x28)))))))))))))))))))))) (x29, (x30, (x31, x32))) x0)).2).1 ((((endQ (x6, (x7, (x8, (x9, (x10, (x11, (x12, (x13, (x14, (x15, (x16, (x17, (x18, (x19, (x20, (x21, (x22, (x23, (x24, (x25, (x26, (x27, x28)))))))))))))))))))))) (x29, (x30, (x31, x32))) x0)).2).2).1 ((((endQ (x6, (x7, (x8, (x9, (x10, (x11, (x12, (x13, (x14, (x15, (x16, (x17, (x18, (x19, (x20, (x21, (x22, (x23, (x24, (x25, (x26, (x27, x28)))))))))))))))))))))) (x29, (x30, (x31, x32))) x0)).2).2).2))) (
         cond (bne (endM (x6, (x7, (x8, (x9, (x10, (x11, (x12, (x13, (x14, (x15, (x16, (x17, (x18, (x19, (x20, (x21, (x22, (x23, (x24, (x25, (x26, (x27, x28)))))))))))))))))))))) (x29, (x30, (x31, x32))) x0) (0 : Int)) (
          lRises.l2  m x0 x1 x2 (IntKind.i64.wrap (x3 + (1 : Int))) x4 (IntKind.i64.wrap (x5 + (1 : Int))) x6 x7 x8 x9 x10 x11 x12 x13 x14 x15 x16 x17 x18 x19 x20 x21 x22 x23 x24 x25 x26 x27 x28 ((endQ (x6, (x7, (x8, (x9, (x10, (x11, (x12, (x13, (x14, (x15, (x16, (x17, (x18, (x19, (x20, (x21, (x22, (x23, (x24, (x25, (x26, (x27, x28)))))))))))))))))))))) (x29, (x30, (x31, x32))) x0)).1 (((endQ (x6, (x7, (x8, (x9, (x10, (x11, (x12, (x13, (x14, (x15, (x16, (x17, (x18, (x19, (x20, (x21, (x22, (x23, (x24, (x25, (x26, (x27, x28)))))))))))))))))))))) (x29, (x30, (x31, x32))) x0)).2).1 ((((endQ (x6, (x7, (x8, (x9, (x10, (x11, (x12, (x13, (x14, (x15, (x16, (x17, (x18, (x19, (x20, (x21, (x22, (x23, (x24, (x25, (x26, (x27, x28)))))))))))))))))))))) (x29, (x30, (x31, x32))) x0)).2).2).1 ((((endQ (x6, (x7, (x8, (x9, (x10, (x11, (x12, (x13, (x14, (x15, (x16, (x17, (x18, (x19, (x20, (x21, (x22, (x23, (x24, (x25, (x26, (x27, x28)))))))))))))))))))))) (x29, (x30, (x31, x32))) x0)).2).2).2) (
          lRises.l2  m x0 x1 x2 x3 x4 (IntKind.i64.wrap (x5 + (1 : Int))) x6 x7 x8 x9 x10 x11 x12 x13 x14 x15 x16 x17 x18 x19 x20 x21 x22 x23 x24 x25 x26 x27 x28 ((endQ (x6, (x7, (x8, (x9, (x10, (x11, (x12, (x13, (x14, (x15, (x16, (x17, (x18, (x19, (x20, (x21, (x22, (x23, (x24, (x25, (x26, (x27, x28)))))))))))))))))))))) (x29, (x30, (x31, x32))) x0)).1 (((endQ (x6, (x7, (x8, (x9, (x10, (x11, (x12, (x13, (x14, (x15, (x16, (x17, (x18, (x19, (x20, (x21, (x22, (x23, (x24, (x25, (x26, (x27, x28)))))))))))))))))))))) (x29, (x30, (x31, x32))) x0)).2).1 ((((endQ (x6, (x7, (x8, (x9, (x10, (x11, (x12, (x13, (x14, (x15, (x16, (x17, (x18, (x19, (x20, (x21, (x22, (x23, (x24, (x25, (x26, (x27, x28)))))))))))))))))))))) (x29, (x30, (x31, x32))) x0)).2).2).1 ((((endQ (x6, (x7, (x8, (x9, (x10, (x11, (x12, (x13, (x14, (x15, (x16, (x17, (x18, (x19, (x20, (x21, (x22, (x23, (x24, (x25, (x26, (x27, x28)))))))))))))))))))))) (x29, (x30, (x31, x32))) x0)).2).2).2)))) (
       cond (decide (x5 ≥ x1)) (
        cond (bne (endM (x6, (x7, (x8, (x9, (x10, (x11, (x12, (x13, (x14, (x15, (x16, (x17, (x18, (x19, (x20, (x21, (x22, (x23, (x24, (x25, (x26, (x27, x28)))))))))))))))))))))) (x29, (x30, (x31, x32))) x0) (0 : Int)) (
         some ((.c (.v (.bool false))), [])) (
         cond (bne (endM (x6, (x7, (x8, (x9, (x10, (x11, (x12, (x13, (x14, (x15, (x16, (x17, (x18, (x19, (x20, (x21, (x22, (x23, (x24, (x25, (x26, (x27, x28)))))))))))))))))))))) (x29, (x30, (x31, x32))) x0) (0 : Int)) (
          lRises.l2  m x0 x1 x2 (IntKind.i64.wrap (x3 + (1 : Int))) x4 (IntKind.i64.wrap (x5 + (1 : Int))) x6 x7 x8 x9 x10 x11 x12 x13 x14 x15 x16 x17 x18 x19 x20 x21 x22 x23 x24 x25 x26 x27 x28 ((endQ (x6, (x7, (x8, (x9, (x10, (x11, (x12, (x13, (x14, (x15, (x16, (x17, (x18, (x19, (x20, (x21, (x22, (x23, (x24, (x25, (x26, (x27, x28)))))))))))))))))))))) (x29, (x30, (x31, x32))) x0)).1 (((endQ (x6, (x7, (x8, (x9, (x10, (x11, (x12, (x13, (x14, (x15, (x16, (x17, (x18, (x19, (x20, (x21, (x22, (x23, (x24, (x25, (x26, (x27, x28)))))))))))))))))))))) (x29, (x30, (x31, x32))) x0)).2).1 ((((endQ (x6, (x7, (x8, (x9, (x10, (x11, (x12, (x13, (x14, (x15, (x16, (x17, (x18, (x19, (x20, (x21, (x22, (x23, (x24, (x25, (x26, (x27, x28)))))))))))))))))))))) (x29, (x30, (x31, x32))) x0)).2).2).1 ((((endQ (x6, (x7, (x8, (x9, (x10, (x11, (x12, (x13, (x14, (x15, (x16, (x17, (x18, (x19, (x20, (x21, (x22, (x23, (x24, (x25, (x26, (x27, x28)))))))))))))))))))))) (x29, (x30, (x31, x32))) x0)).2).2).2) (
          lRises.l2  m x0 x1 x2 x3 x4 (IntKind.i64.wrap (x5 + (1 : Int))) x6 x7 x8 x9 x10 x11 x12 x13 x14 x15 x16 x17 x18 x19 x20 x21 x22 x23 x24 x25 x26 x27 x28 ((endQ (x6, (x7, (x8, (x9, (x10, (x11, (x12, (x13, (x14, (x15, (x16, (x17, (x18, (x19, (x20, (x21, (x22, (x23, (x24, (x25, (x26, (x27, x28)))))))))))))))))))))) (x29, (x30, (x31, x32))) x0)).1 (((endQ (x6, (x7, (x8, (x9, (x10, (x11, (x12, (x13, (x14, (x15, (x16, (x17, (x18, (x19, (x20, (x21, (x22, (x23, (x24, (x25, (x26, (x27, x28)))))))))))))))))))))) (x29, (x30, (x31, x32))) x0)).2).1 ((((endQ (x6, (x7, (x8, (x9, (x10, (x11, (x12, (x13, (x14, (x15, (x16, (x17, (x18, (x19, (x20, (x21, (x22, (x23, (x24, (x25, (x26, (x27, x28)))))))))))))))))))))) (x29, (x30, (x31, x32))) x0)).2).2).1 ((((endQ (x6, (x7, (x8, (x9, (x10, (x11, (x12, (x13, (x14, (x15, (x16, (x17, (x18, (x19, (x20, (x21, (x22, (x23, (x24, (x25, (x26, (x27, x28)))))))))))))))))))))) (x29, (x30, (x31, x32))) x0)).2).2).2))) (
        cond (bne (endM (x6, (x7, (x8, (x9, (x10, (x11, (x12, (x13, (x14, (x15, (x16, (x17, (x18, (x19, (x20, (x21, (x22, (x23, (x24, (x25, (x26, (x27, x28)))))))))))))))))))))) (x29, (x30, (x31, x32))) x0) (0 : Int)) (
         lRises.l2  m x0 x1 x2 (IntKind.i64.wrap (x3 + (1 : Int))) x4 (IntKind.i64.wrap (x5 + (1 : Int))) x6 x7 x8 x9 x10 x11 x12 x13 x14 x15 x16 x17 x18 x19 x20 x21 x22 x23 x24 x25 x26 x27 x28 ((endQ (x6, (x7, (x8, (x9, (x10, (x11, (x12, (x13, (x14, (x15, (x16, (x17, (x18, (x19, (x20, (x21, (x22, (x23, (x24, (x25, (x26, (x27, x28)))))))))))))))))))))) (x29, (x30, (x31, x32))) x0)).1 (((endQ (x6, (x7, (x8, (x9, (x10, (x11, (x12, (x13, (x14, (x15, (x16, (x17, (x18, (x19, (x20, (x21, (x22, (x23, (x24, (x25, (x26, (x27, x28)))))))))))))))))))))) (x29, (x30, (x31, x32))) x0)).2).1 ((((endQ (x6, (x7, (x8, (x9, (x10, (x11, (x12, (x13, (x14, (x15, (x16, (x17, (x18, (x19, (x20, (x21, (x22, (x23, (x24, (x25, (x26, (x27, x28)))))))))))))))))))))) (x29, (x30, (x31, x32))) x0)).2).2).1 ((((endQ (x6, (x7, (x8, (x9, (x10, (x11, (x12, (x13, (x14, (x15, (x16, (x17, (x18, (x19, (x20, (x21, (x22, (x23, (x24, (x25, (x26, (x27, x28)))))))))))))))))))))) (x29, (x30, (x31, x32))) x0)).2).2).2) (
         lRises.l2  m x0 x1 x2 x3 x4 (IntKind.i64.wrap (x5 + (1 : Int))) x6 x7 x8 x9 x10 x11 x12 x13 x14 x15 x16 x17 x18 x19 x20 x21 x22 x23 x24 x25 x26 x27 x28 ((endQ (x6, (x7, (x8, (x9, (x10, (x11, (x12, (x13, (x14, (x15, (x16, (x17, (x18, (x19, (x20, (x21, (x22, (x23, (x24, (x25, (x26, (x27, x28)))))))))))))))))))))) (x29, (x30, (x31, x32))) x0)).1 (((endQ (x6, (x7, (x8, (x9, (x10, (x11, (x12, (x13, (x14, (x15, (x16, (x17, (x18, (x19, (x20, (x21, (x22, (x23, (x24, (x25, (x26, (x27, x28)))))))))))))))))))))) (x29, (x30, (x31, x32))) x0)).2).1 ((((endQ (x6, (x7, (x8, (x9, (x10, (x11, (x12, (x13, (x14, (x15, (x16, (x17, (x18, (x19, (x20, (x21, (x22, (x23, (x24, (x25, (x26, (x27, x28)))))))))))))))))))))) (x29, (x30, (x31, x32))) x0)).2).2).1 ((((endQ (x6, (x7, (x8, (x9, (x10, (x11, (x12, (x13, (x14, (x15, (x16, (x17, (x18, (x19, (x20, (x21, (x22, (x23, (x24, (x25, (x26, (x27, x28)))))))))))))))))))))) (x29, (x30, (x31, x32))) x0)).2).2).2)))) (
      cond (decide (x5 ≥ x1)) (
       cond (bne (endM (x6, (x7, (x8, (x9, (x10, (x11, (x12, (x13, (x14, (x15, (x16, (x17, (x18, (x19, (x20, (x21, (x22, (x23, (x24, (x25, (x26, (x27, x28)))))))))))))))))))))) (x29, (x30, (x31, x32))) x0) (0 : Int)) (
        some ((.c (.v (.bool false))), [])) (
        cond (bne (endM (x6, (x7, (x8, (x9, (x10, (x11, (x12, (x13, (x14, (x15, (x16, (x17, (x18, (x19, (x20, (x21, (x22, (x23, (x24, (x25, (x26, (x27, x28)))))))))))))))))))))) (x29, (x30, (x31, x32))) x0) (0 : Int)) (
         lRises.l2  m x0 x1 x2 (IntKind.i64.wrap (x3 + (1 : Int))) x4 (IntKind.i64.wrap (x5 + (1 : Int))) x6 x7 x8 x9 x10 x11 x12 x13 x14 x15 x16 x17 x18 x19 x20 x21 x22 x23 x24 x25 x26 x27 x28 ((endQ (x6, (x7, (x8, (x9, (x10, (x11, (x12, (x13, (x14, (x15, (x16, (x17, (x18, (x19, (x20, (x21, (x22, (x23, (x24, (x25, (x26, (x27, x28)))))))))))))))))))))) (x29, (x30, (x31, x32))) x0)).1 (((endQ (x6, (x7, (x8, (x9, (x10, (x11, (x12, (x13, (x14, (x15, (x16, (x17, (x18, (x19, (x20, (x21, (x22, (x23, (x24, (x25, (x26, (x27, x28)))))))))))))))))))))) (x29, (x30, (x31, x32))) x0)).2).1 ((((endQ (x6, (x7, (x8, (x9, (x10, (x11, (x12, (x13, (x14, (x15, (x16, (x17, (x18, (x19, (x20, (x21, (x22, (x23, (x24, (x25, (x26, (x27, x28)))))))))))))))))))))) (x29, (x30, (x31, x32))) x0)).2).2).1 ((((endQ (x6, (x7, (x8, (x9, (x10, (x11, (x12, (x13, (x14, (x15, (x16, (x17, (x18, (x19, (x20, (x21, (x22, (x23, (x24, (x25, (x26, (x27, x28)))))))))))))))))))))) (x29, (x30, (x31, x32))) x0)).2).2).2) (
         lRises.l2  m x0 x1 x2 x3 x4 (IntKind.i64.wrap (x5 + (1 : Int))) x6 x7 x8 x9 x10 x11 x12 x13 x14 x15 x16 x17 x18 x19 x20 x21 x22 x23 x24 x25 x26 x27 x28 ((endQ (x6, (x7, (x8, (x9, (x10, (x11, (x12, (x13, (x14, (x15, (x16, (x17, (x18, (x19, (x20, (x21, (x22, (x23, (x24, (x25, (x26, (x27, x28)))))))))))))))))))))) (x29, (x30, (x31, x32))) x0)).1 (((endQ (x6, (x7, (x8, (x9, (x10, (x11, (x12, (x13, (x14, (x15, (x16, (x17, (x18, (x19, (x20, (x21, (x22, (x23, (x24, (x25, (x26, (x27, x28)))))))))))))))))))))) (x29, (x30, (x31, x32))) x0)).2).1 ((((endQ (x6, (x7, (x8, (x9, (x10, (x11, (x12, (x13, (x14, (x15, (x16, (x17, (x18, (x19, (x20, (x21, (x22, (x23, (x24, (x25, (x26, (x27, x28)))))))))))))))))))))) (x29, (x30, (x31, x32))) x0)).2).2).1 ((((endQ (x6, (x7, (x8, (x9, (x10, (x11, (x12, (x13, (x14, (x15, (x16, (x17, (x18, (x19, (x20, (x21, (x22, (x23, (x24, (x25, (x26, (x27, x28)))))))))))))))))))))) (x29, (x30, (x31, x32))) x0)).2).2).2))) (
       cond (bne (endM (x6, (x7, (x8, (x9, (x10, (x11, (x12, (x13, (x14, (x15, (x16, (x17, (x18, (x19, (x20, (x21, (x22, (x23, (x24, (x25, (x26, (x27, x28)))))))))))))))))))))) (x29, (x30, (x31, x32))) x0) (0 : Int)) (
        lRises.l2  m x0 x1 x2 (IntKind.i64.wrap (x3 + (1 : Int))) x4 (IntKind.i64.wrap (x5 + (1 : Int))) x6 x7 x8 x9 x10 x11 x12 x13 x14 x15 x16 x17 x18 x19 x20 x21 x22 x23 x24 x25 x26 x27 x28 ((endQ (x6, (x7, (x8, (x9, (x10, (x11, (x12, (x13, (x14, (x15, (x16, (x17, (x18, (x19, (x20, (x21, (x22, (x23, (x24, (x25, (x26, (x27, x28)))))))))))))))))))))) (x29, (x30, (x31, x32))) x0)).1 (((endQ (x6, (x7, (x8, (x9, (x10, (x11, (x12, (x13, (x14, (x15, (x16, (x17, (x18, (x19, (x20, (x21, (x22, (x23, (x24, (x25, (x26, (x27, x28)))))))))))))))))))))) (x29, (x30, (x31, x32))) x0)).2).1 ((((endQ (x6, (x7, (x8, (x9, (x10, (x11, (x12, (x13, (x14, (x15, (x16, (x17, (x18, (x19, (x20, (x21, (x22, (x23, (x24, (x25, (x26, (x27, x28)))))))))))))))))))))) (x29, (x30, (x31, x32))) x0)).2).2).1 ((((endQ (x6, (x7, (x8, (x9, (x10, (x11, (x12, (x13, (x14, (x15, (x16, (x17, (x18, (x19, (x20, (x21, (x22, (x23, (x24, (x25, (x26, (x27, x28)))))))))))))))))))))) (x29, (x30, (x31, x32))) x0)).2).2).2) (
        lRises.l2  m x0 x1 x2 x3 x4 (IntKind.i64.wrap (x5 + (1 : Int))) x6 x7 x8 x9 x10 x11 x12 x13 x14 x15 x16 x17 x18 x19 x20 x21 x22 x23 x24 x25 x26 x27 x28 ((endQ (x6, (x7, (x8, (x9, (x10, (x11, (x12, (x13, (x14, (x15, (x16, (x17, (x18, (x19, (x20, (x21, (x22, (x23, (x24, (x25, (x26, (x27, x28)))))))))))))))))))))) (x29, (x30, (x31, x32))) x0)).1 (((endQ (x6, (x7, (x8, (x9, (x10, (x11, (x12, (x13, (x14, (x15, (x16, (x17, (x18, (x19, (x20, (x21, (x22, (x23, (x24, (x25, (x26, (x27, x28)))))))))))))))))))))) (x29, (x30, (x31, x32))) x0)).2).1 ((((endQ (x6, (x7, (x8, (x9, (x10, (x11, (x12, (x13, (x14, (x15, (x16, (x17, (x18, (x19, (x20, (x21, (x22, (x23, (x24, (x25, (x26, (x27, x28)))))))))))))))))))))) (x29, (x30, (x31, x32))) x0)).2).2).1 ((((endQ (x6, (x7, (x8, (x9, (x10, (x11, (x12, (x13, (x14, (x15, (x16, (x17, (x18, (x19, (x20, (x21, (x22, (x23, (x24, (x25, (x26, (x27, x28)))))))))))))))))))))) (x29, (x30, (x31, x32))) x0)).2).2).2)))))) (
   cond (Bool.not (x29 == x0)) (
    some ((.c (.v (.bool false))), [])) (
    cond (bne x30 (0 : Int)) (
     some ((.c (.v (.bool false))), [])) (
     cond (decide (x3 > (1 : Int))) (
      some ((.c (.v (.bool false))), [])) (
      cond (Bool.not ((x3 == (1 : Int)) == (Bool.not ((wellB (x29, (x30, (x31, x32)))) == x2)))) (
       some ((.c (.v (.bool false))), [])) (
       cond (bne x31 (0 : Int)) (
        some ((.c (.v (.bool true))), [])) (
        cond ((wellB (x29, (x30, (x31, x32)))) == x0) (
         some ((.c (.v (.bool true))), [])) (
         some ((.c (.v (.bool false))), [])))))))) := by kernel_rfl
theorem lRises.run_eq  (m : Nat) (x0 : (El TConfig)) (x1 : (El TQ)) (x2 : (List Bool)) (x3 : Bool) (x4 : Int) : run (lRises.cfg ) Tryd.f3.ntmps Tryd.f3.results.toList m [.code (bodyOf Tryd.f3)] (enter (ivA lRises.ps (x0, x1, x2, x3, x4, ()))) = lRises.go  m x0 x1 x2 x3 x4 := by kernel_rfl
theorem lRises.ret  (hs : SpecsOK Tryd.prog (lRises.specs ))  (x0 : (El TConfig)) (x1 : (El TQ)) (x2 : (List Bool)) (x3 : Bool) (x4 : Int) {m : Nat} {r : IV} (h : lRises.go  m x0 x1 x2 x3 x4 = some (r, [])) : VE.Returns Tryd.prog 3 (ivA lRises.ps (x0, x1, x2, x3, x4, ())) r :=
  returns_of_run (cfg := lRises.cfg ) (cfgOK_of mixed tab_ok hs .nil) rfl Tryd.func3 (body_some (by kernel_rfl)) (Nat.le_of_ble_eq_true (by kernel_rfl)) ((lRises.run_eq  m x0 x1 x2 x3 x4).trans h)
abbrev lRises.Law : Prop := ∀ (x0 : (El TConfig)) (x1 : (El TQ)) (x2 : (List Bool)) (x3 : Bool) (x4 : Int), lRises.pre (x0, x1, x2, x3, x4, ()) = true → VE.Returns Tryd.prog 3 (ivA lRises.ps (x0, x1, x2, x3, x4, ())) (lRises.res (x0, x1, x2, x3, x4, ()))
theorem lRises.mkR (H : ∀ (x0 : (El TConfig)) (x1 : (El TQ)) (x2 : (List Bool)) (x3 : Bool) (x4 : Int), lRises.pre (x0, x1, x2, x3, x4, ()) = true → VE.Returns Tryd.prog 3 (ivA lRises.ps (x0, x1, x2, x3, x4, ())) (lRises.res (x0, x1, x2, x3, x4, ()))) : SpecOK Tryd.prog 3 lRises.sp :=
  specOf_ret Tryd.func3 (by kernel_rfl) (by kernel_rfl) fun (x : (El TConfig) × (El TQ) × (List Bool) × Bool × Int × Unit) hx => H (x.1) (x.2.1) (x.2.2.1) (x.2.2.2.1) (x.2.2.2.2.1) hx
theorem lRises.mk  (hs : SpecsOK Tryd.prog (lRises.specs ))  (H : ∀ (x0 : (El TConfig)) (x1 : (El TQ)) (x2 : (List Bool)) (x3 : Bool) (x4 : Int), lRises.pre (x0, x1, x2, x3, x4, ()) = true → ∃ m, lRises.go  m x0 x1 x2 x3 x4 = some (lRises.res (x0, x1, x2, x3, x4, ()), [])) : SpecOK Tryd.prog 3 lRises.sp :=
  lRises.mkR fun x0 x1 x2 x3 x4 hx => (H x0 x1 x2 x3 x4 hx).elim fun _ hm => lRises.ret  hs  x0 x1 x2 x3 x4 hm

/-! ### triage/triagelaw10.ProbeForced -/
abbrev lForced.ps : List AK := [.d true TConfig, .d false (.sl .bool), .d false (.int .i64)]
def lForced.pre : ElA lForced.ps → Bool := fun (x : (El TConfig) × (List Bool) × Int × Unit) => fits TConfig (x.1) && (fits (.sl .bool) (x.2.1) && (fits (.int .i64) (x.2.2.1) && (true)))
noncomputable def lForced.res : ElA lForced.ps → IV := fun (x : (El TConfig) × (List Bool) × Int × Unit) => (fun _ _ _ => vb true) x.1 x.2.1 x.2.2.1
noncomputable def lForced.sp : ISpec := spOf lForced.ps lForced.pre lForced.res
abbrev lForced.OK : Prop := SpecOK Tryd.prog 4 lForced.sp
noncomputable def lForced.body : Code := bodyOf Tryd.f4
noncomputable def lForced.rs : List ResultVar := Tryd.f4.results.toList
def lForced.live : List (Nat × Live) := [(9, ⟨[(2, .plain), (3, .plain), (7, .plain), (8, .plain), (45, .sl .bool), (46, .plain), (47, .plain)], [(1, []), (2053, []), (2055, [])]⟩)]
noncomputable def lForced.specs  : List (Nat × (List Bool × ISpec)) := [(8, ([], awake.sp)), (7, ([], mayCR.sp)), (11, ([], newP.sp)), (9, ([], endP.sp)), (10, ([], well.sp)), (12, ([], force.sp))]
noncomputable def lForced.ospecs  : List (Nat × OS) := []
noncomputable def lForced.cfg  : Cfg := ⟨lkp tab, lkp (lForced.specs ), lkp lForced.live, ⟨lkp (lForced.ospecs ), [], none, false, []⟩⟩
noncomputable def lForced.l1  (m : Nat) (x0 : Int) (x1 : List Bool) (x2 : Int) (x3 : Int) (x4 : Int) (x5 : Int) (x6 : Int) (x7 : Int) (x8 : Int) (x9 : Int) (x10 : Int) (x11 : Int) (x12 : Int) (x13 : Int) (x14 : Int) (x15 : Int) (x16 : Int) (x17 : Int) (x18 : Int) (x19 : Bool) (x20 : Int) (x21 : Int) (x22 : Int) (x23 : Int) (x24 : Int) (x25 : ByteArray) (x26 : Bool) (x27 : Bool) (x28 : Int) (x29 : Int) (x30 : Int) (x31 : Bool) (x32 : Int) (x33 : Int) (x34 : Int) : R := run (lForced.cfg ) 87 lForced.rs m ((todoR 9 lForced.body []).getD []) ⟨ofList (.c .junk) [(2, (.c (.v (.int .i64 x0)))), (3, (.c (.ref 1 0))), (7, (.c (.ref 2053 0))), (8, (.c (.ref 2055 0))), (45, (.c (.sl .bool x1))), (46, (.c (.v (.int .i64 x2)))), (47, (.c (.v (.int .i64 x3))))], ofList none [(1, some (.cells 23 [(.v (.int .i64 x4)), (.v (.int .i64 x5)), (.v (.int .i64 x6)), (.v (.int .i64 x7)), (.v (.int .i64 x8)), (.v (.int .i64 x9)), (.v (.int .i64 x10)), (.v (.int .i64 x11)), (.v (.int .i64 x12)), (.v (.int .i64 x13)), (.v (.int .i64 x14)), (.v (.int .i64 x15)), (.v (.int .i64 x16)), (.v (.int .i64 x17)), (.v (.int .i64 x18)), (.v (.bool x19)), (.v (.int .i64 x20)), (.v (.int .i64 x21)), (.v (.int .i64 x22)), (.v (.int .i64 x23)), (.v (.int .i64 x24)), (.v (.string x25)), (.v (.bool x26))])), (2053, some (.cells 25 [(.v (.bool x27)), (.v (.int .i64 x28)), (.v (.int .i64 x29)), (.v (.int .i64 x30))])), (2055, some (.cells 25 [(.v (.bool x31)), (.v (.int .i64 x32)), (.v (.int .i64 x33)), (.v (.int .i64 x34))]))], ofList false [(1, true), (2053, true), (2055, true)]⟩
noncomputable def lForced.go  (m : Nat) (x0 : (El TConfig)) (x1 : (List Bool)) (x2 : Int) : R := run (lForced.cfg ) 87 lForced.rs m [.code lForced.body] (enter (ivA lForced.ps (x0, x1, x2, ())))
theorem lForced.start  (m : Nat) (x0 : (El TConfig)) (x1 : (List Bool)) (x2 : Int) : lForced.go  (m + 1) x0 x1 x2 =
  cond (decide (((List.length x1) : Int) > (100 : Int))) (
   some ((.c (.v (.bool true))), [])) (
   test (mayCR.pre (x0, Unit.unit)) (
    cond (Bool.not (mayC x0)) (
     some ((.c (.v (.bool true))), [])) (
     cond (Bool.not (((forceM (true, ((0 : El (Ty.int IntKind.i64)), ((0 : El (Ty.int IntKind.i64)), (0 : El (Ty.int IntKind.i64))))) (IntKind.i64.wrap ((1 : Int) + (IntKind.i64.wrap (Int.tmod (IntKind.u64.wrap x2) (2 : Int)))))) == (2 : Int)) == ((IntKind.i64.wrap ((1 : Int) + (IntKind.i64.wrap (Int.tmod (IntKind.u64.wrap x2) (2 : Int))))) == (1 : Int)))) (
      some ((.c (.v (.bool false))), [])) (
      cond ((forceM (true, ((0 : El (Ty.int IntKind.i64)), ((0 : El (Ty.int IntKind.i64)), (0 : El (Ty.int IntKind.i64))))) (IntKind.i64.wrap ((1 : Int) + (IntKind.i64.wrap (Int.tmod (IntKind.u64.wrap x2) (2 : Int)))))) == (1 : Int)) (
       some ((.c (.v (.bool false))), [])) (
       lForced.l1  m (IntKind.i64.wrap ((1 : Int) + (IntKind.i64.wrap (Int.tmod (IntKind.u64.wrap x2) (2 : Int))))) x1 ((List.length x1) : Int) (0 : Int) x0.1 x0.2.1 x0.2.2.1 x0.2.2.2.1 x0.2.2.2.2.1 x0.2.2.2.2.2.1 x0.2.2.2.2.2.2.1 x0.2.2.2.2.2.2.2.1 x0.2.2.2.2.2.2.2.2.1 x0.2.2.2.2.2.2.2.2.2.1 x0.2.2.2.2.2.2.2.2.2.2.1 x0.2.2.2.2.2.2.2.2.2.2.2.1 x0.2.2.2.2.2.2.2.2.2.2.2.2.1 x0.2.2.2.2.2.2.2.2.2.2.2.2.2.1 x0.2.2.2.2.2.2.2.2.2.2.2.2.2.2.1 x0.2.2.2.2.2.2.2.2.2.2.2.2.2.2.2.1 x0.2.2.2.2.2.2.2.2.2.2.2.2.2.2.2.2.1 x0.2.2.2.2.2.2.2.2.2.2.2.2.2.2.2.2.2.1 x0.2.2.2.2.2.2.2.2.2.2.2.2.2.2.2.2.2.2.1 x0.2.2.2.2.2.2.2.2.2.2.2.2.2.2.2.2.2.2.2.1 x0.2.2.2.2.2.2.2.2.2.2.2.2.2.2.2.2.2.2.2.2.1 x0.2.2.2.2.2.2.2.2.2.2.2.2.2.2.2.2.2.2.2.2.2.1 x0.2.2.2.2.2.2.2.2.2.2.2.2.2.2.2.2.2.2.2.2.2.2 ((forceQ (true, ((0 : El (Ty.int IntKind.i64)), ((0 : El (Ty.int IntKind.i64)), (0 : El (Ty.int IntKind.i64))))) (IntKind.i64.wrap ((1 : Int) + (IntKind.i64.wrap (Int.tmod (IntKind.u64.wrap x2) (2 : Int))))))).1 (((forceQ (true, ((0 : El (Ty.int IntKind.i64)), ((0 : El (Ty.int IntKind.i64)), (0 : El (Ty.int IntKind.i64))))) (IntKind.i64.wrap ((1 : Int) + (IntKind.i64.wrap (Int.tmod (IntKind.u64.wrap x2) (2 : Int))))))).2).1 ((((forceQ (true, ((0 : El (Ty.int IntKind.i64)), ((0 : El (Ty.int IntKind.i64)), (0 : El (Ty.int IntKind.i64))))) (IntKind.i64.wrap ((1 : Int) + (IntKind.i64.wrap (Int.tmod (IntKind.u64.wrap x2) (2 : Int))))))).2).2).1 ((((forceQ (true, ((0 : El (Ty.int IntKind.i64)), ((0 : El (Ty.int IntKind.i64)), (0 : El (Ty.int IntKind.i64))))) (IntKind.i64.wrap ((1 : Int) + (IntKind.i64.wrap (Int.tmod (IntKind.u64.wrap x2) (2 : Int))))))).2).2).2 true (0 : El (Ty.int IntKind.i64)) (0 : El (Ty.int IntKind.i64)) (0 : El (Ty.int IntKind.i64))))))) := by kernel_rfl
theorem lForced.s1  (m : Nat) (x0 : Int) (x1 : List Bool) (x2 : Int) (x3 : Int) (x4 : Int) (x5 : Int) (x6 : Int) (x7 : Int) (x8 : Int) (x9 : Int) (x10 : Int) (x11 : Int) (x12 : Int) (x13 : Int) (x14 : Int) (x15 : Int) (x16 : Int) (x17 : Int) (x18 : Int) (x19 : Bool) (x20 : Int) (x21 : Int) (x22 : Int) (x23 : Int) (x24 : Int) (x25 : ByteArray) (x26 : Bool) (x27 : Bool) (x28 : Int) (x29 : Int) (x30 : Int) (x31 : Bool) (x32 : Int) (x33 : Int) (x34 : Int) : lForced.l1  (m + 1) x0 x1 x2 x3 x4 x5 x6 x7 x8 x9 x10 x11 x12 x13 x14 x15 x16 x17 x18 x19 x20 x21 x22 x23 x24 x25 x26 x27 x28 x29 x30 x31 x32 x33 x34 =
  cond (decide (x3 < x2)) (
   test (decide ((0 : Int) ≤ x3)) (
    test (decide (x3 < ((List.length x1) : Int))) (
     test (endP.pre ((x4, (x5, (x6, (x7, (x8, (x9, (x10, (x11, (x12, (x13, (x14, (x15, (x16, (x17, (x18, (x19, (x20, (x21, (x22, (x23, (x24, (x25, x26)))))))))))))))))))))), ((x27, (x28, (x29, x30))), ((rdEl .bool x1 (Int.toNat x3)), Unit.unit)))) (
      cond (bne (endM (x4, (x5, (x6, (x7, (x8, (x9, (x10, (x11, (x12, (x13, (x14, (x15, (x16, (x17, (x18, (x19, (x20, (x21, (x22, (x23, (x24, (x25, x26)))))))))))))))))))))) (x27, (x28, (x29, x30))) (rdEl .bool x1 (Int.toNat x3))) (0 : Int)) (
       some ((.c (.v (.bool false))), [])) (
       cond (Bool.not ((wellB ((endQ (x4, (x5, (x6, (x7, (x8, (x9, (x10, (x11, (x12, (x13, (x14, (x15, (x16, (x17, (x18, (x19, (x20, (x21, (x22, (x23, (x24, (x25, x26)))))))))))))))))))))) (x27, (x28, (x29, x30))) (rdEl .bool x1 (Int.toNat x3))))) == (x0 == (2 : Int)))) (
        some ((.c (.v (.bool false))), [])) (
        test (endP.pre ((x4, (x5, (x6, (x7, (x8, (x9, (x10, (x11, (x12, (x13, (x14, (x15, (x16, (x17, (x18, (x19, (x20, (x21, (x22, (x23, (x24, (x25, x26)))))))))))))))))))))), ((x31, (x32, (x33, x34))), ((rdEl .bool x1 (Int.toNat x3)), Unit.unit)))) (
         lForced.l1  m x0 x1 x2 (IntKind.i64.wrap (x3 + (1 : Int))) x4 x5 x6 x7 x8 x9 x10 x11 x12 x13 x14 x15 x16 x17 x18 x19 x20 x21 x22 x23 x24 x25 x26 ((endQ (x4, (x5, (x6, (x7, (x8, (x9, (x10, (x11, (x12, (x13, (x14, (x15, (x16, (x17, (x18, (x19, (x20, (x21, (x22, (x23, (x24, (x25, x26)))))))))))))))))))))) (x27, (x28, (x29, x30))) (rdEl .bool x1 (Int.toNat x3)))).1 (((endQ (x4, (x5, (x6, (x7, (x8, (x9, (x10, (x11, (x12, (x13, (x14, (x15, (x16, (x17, (x18, (x19, (x20, (x21, (x22, (x23, (x24, (x25, x26)))))))))))))))))))))) (x27, (x28, (x29, x30))) (rdEl .bool x1 (Int.toNat x3)))).2).1 ((((endQ (x4, (x5, (x6, (x7, (x8, (x9, (x10, (x11, (x12, (x13, (x14, (x15, (x16, (x17, (x18, (x19, (x20, (x21, (x22, (x23, (x24, (x25, x26)))))))))))))))))))))) (x27, (x28, (x29, x30))) (rdEl .bool x1 (Int.toNat x3)))).2).2).1 ((((endQ (x4, (x5, (x6, (x7, (x8, (x9, (x10, (x11, (x12, (x13, (x14, (x15, (x16, (x17, (x18, (x19, (x20, (x21, (x22, (x23, (x24, (x25, x26)))))))))))))))))))))) (x27, (x28, (x29, x30))) (rdEl .bool x1 (Int.toNat x3)))).2).2).2 ((endQ (x4, (x5, (x6, (x7, (x8, (x9, (x10, (x11, (x12, (x13, (x14, (x15, (x16, (x17, (x18, (x19, (x20, (x21, (x22, (x23, (x24, (x25, x26)))))))))))))))))))))) (x31, (x32, (x33, x34))) (rdEl .bool x1 (Int.toNat x3)))).1 (((endQ (x4, (x5, (x6, (x7, (x8, (x9, (x10, (x11, (x12, (x13, (x14, (x15, (x16, (x17, (x18, (x19, (x20, (x21, (x22, (x23, (x24, (x25, x26)))))))))))))))))))))) (x31, (x32, (x33, x34))) (rdEl .bool x1 (Int.toNat x3)))).2).1 ((((endQ (x4, (x5, (x6, (x7, (x8, (x9, (x10, (x11, (x12, (x13, (x14, (x15, (x16, (x17, (x18, (x19, (x20, (x21, (x22, (x23, (x24, (x25, x26)))))))))))))))))))))) (x31, (x32, (x33, x34))) (rdEl .bool x1 (Int.toNat x3)))).2).2).1 ((((endQ (x4, (x5, (x6, (x7, (x8, (x9, (x10, (x11, (x12, (x13, (x14, (x15, (x16, (x17, (x18, (x19, (x20, (x21, (x22, (x23, (x24, (x25, x26)))))))))))))))))))))) (x31, (x32, (x33, x34))) (rdEl .bool x1 (Int.toNat x3)))).2).2).2))))))) (
   cond ((((forceQ (x27, (x28, (x29, x30))) (0 : Int))).1 == x31) && (((((forceQ (x27, (x28, (x29, x30))) (0 : Int))).2).1 == x32) && ((((((forceQ (x27, (x28, (x29, x30))) (0 : Int))).2).2).1 == x33) && ((((((forceQ (x27, (x28, (x29, x30))) (0 : Int))).2).2).2 == x34) && true)))) (
    some ((.c (.v (.bool true))), [])) (
    some ((.c (.v (.bool false))), []))) := by kernel_rfl
theorem lForced.run_eq  (m : Nat) (x0 : (El TConfig)) (x1 : (List Bool)) (x2 : Int) : run (lForced.cfg ) Tryd.f4.ntmps Tryd.f4.results.toList m [.code (bodyOf Tryd.f4)] (enter (ivA lForced.ps (x0, x1, x2, ()))) = lForced.go  m x0 x1 x2 := by kernel_rfl
theorem lForced.ret  (hs : SpecsOK Tryd.prog (lForced.specs ))  (x0 : (El TConfig)) (x1 : (List Bool)) (x2 : Int) {m : Nat} {r : IV} (h : lForced.go  m x0 x1 x2 = some (r, [])) : VE.Returns Tryd.prog 4 (ivA lForced.ps (x0, x1, x2, ())) r :=
  returns_of_run (cfg := lForced.cfg ) (cfgOK_of mixed tab_ok hs .nil) rfl Tryd.func4 (body_some (by kernel_rfl)) (Nat.le_of_ble_eq_true (by kernel_rfl)) ((lForced.run_eq  m x0 x1 x2).trans h)
abbrev lForced.Law : Prop := ∀ (x0 : (El TConfig)) (x1 : (List Bool)) (x2 : Int), lForced.pre (x0, x1, x2, ()) = true → VE.Returns Tryd.prog 4 (ivA lForced.ps (x0, x1, x2, ())) (lForced.res (x0, x1, x2, ()))
theorem lForced.mkR (H : ∀ (x0 : (El TConfig)) (x1 : (List Bool)) (x2 : Int), lForced.pre (x0, x1, x2, ()) = true → VE.Returns Tryd.prog 4 (ivA lForced.ps (x0, x1, x2, ())) (lForced.res (x0, x1, x2, ()))) : SpecOK Tryd.prog 4 lForced.sp :=
  specOf_ret Tryd.func4 (by kernel_rfl) (by kernel_rfl) fun (x : (El TConfig) × (List Bool) × Int × Unit) hx => H (x.1) (x.2.1) (x.2.2.1) hx
theorem lForced.mk  (hs : SpecsOK Tryd.prog (lForced.specs ))  (H : ∀ (x0 : (El TConfig)) (x1 : (List Bool)) (x2 : Int), lForced.pre (x0, x1, x2, ()) = true → ∃ m, lForced.go  m x0 x1 x2 = some (lForced.res (x0, x1, x2, ()), [])) : SpecOK Tryd.prog 4 lForced.sp :=
  lForced.mkR fun x0 x1 x2 hx => (H x0 x1 x2 hx).elim fun _ hm => lForced.ret  hs  x0 x1 x2 hm

/-! ### triage/triagelaw10.ProbeWaits -/
abbrev lWaits.ps : List AK := [.d true TConfig, .d false (.int .i64), .d false (.int .i64)]
def lWaits.pre : ElA lWaits.ps → Bool := fun (x : (El TConfig) × Int × Int × Unit) => fits TConfig (x.1) && (fits (.int .i64) (x.2.1) && (fits (.int .i64) (x.2.2.1) && ((fun _ h i => decide (-9223372036854775808 ≤ h ∧ h ≤ 9223372036854775807 ∧ -9223372036854775808 ≤ i ∧ i ≤ 9223372036854775807)) x.1 x.2.1 x.2.2.1 && (true))))
noncomputable def lWaits.res : ElA lWaits.ps → IV := fun (x : (El TConfig) × Int × Int × Unit) => (fun _ _ _ => vb true) x.1 x.2.1 x.2.2.1
noncomputable def lWaits.sp : ISpec := spOf lWaits.ps lWaits.pre lWaits.res
abbrev lWaits.OK : Prop := SpecOK Tryd.prog 5 lWaits.sp
noncomputable def lWaits.body : Code := bodyOf Tryd.f5
noncomputable def lWaits.rs : List ResultVar := Tryd.f5.results.toList
def lWaits.live : List (Nat × Live) := []
noncomputable def lWaits.specs  : List (Nat × (List Bool × ISpec)) := [(8, ([], awake.sp)), (7, ([], mayCR.sp)), (13, ([], wait.sp))]
noncomputable def lWaits.ospecs  : List (Nat × OS) := []
noncomputable def lWaits.cfg  : Cfg := ⟨lkp tab, lkp (lWaits.specs ), lkp lWaits.live, ⟨lkp (lWaits.ospecs ), [], none, false, []⟩⟩
noncomputable def lWaits.go  (m : Nat) (x0 : (El TConfig)) (x1 : Int) (x2 : Int) : R := run (lWaits.cfg ) 44 lWaits.rs m [.code lWaits.body] (enter (ivA lWaits.ps (x0, x1, x2, ())))
theorem lWaits.start  (m : Nat) (x0 : (El TConfig)) (x1 : Int) (x2 : Int) : lWaits.go  (m + 1) x0 x1 x2 =
  test (mayCR.pre (x0, Unit.unit)) (
   cond (Bool.not (mayC x0)) (
    some ((.c (.v (.bool true))), [])) (
    test (wait.pre (x0, (x1, (x2, Unit.unit)))) (
     cond (decide ((waitI x0 x1 x2) ≥ x0.1)) (
      cond (decide ((waitI x0 x1 x2) ≤ (IntKind.i64.wrap (x0.1 + x0.2.2.1)))) (
       test (wait.pre ((x0.1, (x0.2.1, ((0 : Int), x0.2.2.2))), (x1, (x2, Unit.unit)))) (
        cond ((waitI (x0.1, (x0.2.1, ((0 : Int), x0.2.2.2))) x1 x2) == x0.1) (
         some ((.c (.v (.bool true))), [])) (
         some ((.c (.v (.bool false))), [])))) (
       some ((.c (.v (.bool false))), []))) (
      some ((.c (.v (.bool false))), []))))) := by kernel_rfl
theorem lWaits.run_eq  (m : Nat) (x0 : (El TConfig)) (x1 : Int) (x2 : Int) : run (lWaits.cfg ) Tryd.f5.ntmps Tryd.f5.results.toList m [.code (bodyOf Tryd.f5)] (enter (ivA lWaits.ps (x0, x1, x2, ()))) = lWaits.go  m x0 x1 x2 := by kernel_rfl
theorem lWaits.ret  (hs : SpecsOK Tryd.prog (lWaits.specs ))  (x0 : (El TConfig)) (x1 : Int) (x2 : Int) {m : Nat} {r : IV} (h : lWaits.go  m x0 x1 x2 = some (r, [])) : VE.Returns Tryd.prog 5 (ivA lWaits.ps (x0, x1, x2, ())) r :=
  returns_of_run (cfg := lWaits.cfg ) (cfgOK_of mixed tab_ok hs .nil) rfl Tryd.func5 (body_some (by kernel_rfl)) (Nat.le_of_ble_eq_true (by kernel_rfl)) ((lWaits.run_eq  m x0 x1 x2).trans h)
abbrev lWaits.Law : Prop := ∀ (x0 : (El TConfig)) (x1 : Int) (x2 : Int), lWaits.pre (x0, x1, x2, ()) = true → VE.Returns Tryd.prog 5 (ivA lWaits.ps (x0, x1, x2, ())) (lWaits.res (x0, x1, x2, ()))
theorem lWaits.mkR (H : ∀ (x0 : (El TConfig)) (x1 : Int) (x2 : Int), lWaits.pre (x0, x1, x2, ()) = true → VE.Returns Tryd.prog 5 (ivA lWaits.ps (x0, x1, x2, ())) (lWaits.res (x0, x1, x2, ()))) : SpecOK Tryd.prog 5 lWaits.sp :=
  specOf_ret Tryd.func5 (by kernel_rfl) (by kernel_rfl) fun (x : (El TConfig) × Int × Int × Unit) hx => H (x.1) (x.2.1) (x.2.2.1) hx
theorem lWaits.mk  (hs : SpecsOK Tryd.prog (lWaits.specs ))  (H : ∀ (x0 : (El TConfig)) (x1 : Int) (x2 : Int), lWaits.pre (x0, x1, x2, ()) = true → ∃ m, lWaits.go  m x0 x1 x2 = some (lWaits.res (x0, x1, x2, ()), [])) : SpecOK Tryd.prog 5 lWaits.sp :=
  lWaits.mkR fun x0 x1 x2 hx => (H x0 x1 x2 hx).elim fun _ hm => lWaits.ret  hs  x0 x1 x2 hm

/-! ### triage/triagelaw10.ProbeTurns -/
abbrev lTurns.ps : List AK := [.d true TConfig, .d false (.sl .bool)]
def lTurns.pre : ElA lTurns.ps → Bool := fun (x : (El TConfig) × (List Bool) × Unit) => fits TConfig (x.1) && (fits (.sl .bool) (x.2.1) && (true))
noncomputable def lTurns.res : ElA lTurns.ps → IV := fun (x : (El TConfig) × (List Bool) × Unit) => (fun _ _ => vb true) x.1 x.2.1
noncomputable def lTurns.sp : ISpec := spOf lTurns.ps lTurns.pre lTurns.res
abbrev lTurns.OK : Prop := SpecOK Tryd.prog 6 lTurns.sp
noncomputable def lTurns.body : Code := bodyOf Tryd.f6
noncomputable def lTurns.rs : List ResultVar := Tryd.f6.results.toList
def lTurns.live : List (Nat × Live) := [(6, ⟨[(2, .plain), (5, .plain), (6, .plain), (21, .sl .bool), (22, .plain), (23, .plain)], [(1, []), (1539, [])]⟩)]
noncomputable def lTurns.specs  : List (Nat × (List Bool × ISpec)) := [(8, ([], awake.sp)), (7, ([], mayCR.sp)), (11, ([], newP.sp)), (9, ([], endP.sp)), (10, ([], well.sp))]
noncomputable def lTurns.ospecs  : List (Nat × OS) := []
noncomputable def lTurns.cfg  : Cfg := ⟨lkp tab, lkp (lTurns.specs ), lkp lTurns.live, ⟨lkp (lTurns.ospecs ), [], none, false, []⟩⟩
noncomputable def lTurns.l1  (m : Nat) (x0 : Int) (x1 : List Bool) (x2 : Int) (x3 : Int) (x4 : Int) (x5 : Int) (x6 : Int) (x7 : Int) (x8 : Int) (x9 : Int) (x10 : Int) (x11 : Int) (x12 : Int) (x13 : Int) (x14 : Int) (x15 : Int) (x16 : Int) (x17 : Int) (x18 : Int) (x19 : Bool) (x20 : Int) (x21 : Int) (x22 : Int) (x23 : Int) (x24 : Int) (x25 : ByteArray) (x26 : Bool) (x27 : Bool) (x28 : Int) (x29 : Int) (x30 : Int) : R := run (lTurns.cfg ) 74 lTurns.rs m ((todoR 6 lTurns.body []).getD []) ⟨ofList (.c .junk) [(2, (.c (.ref 1 0))), (5, (.c (.ref 1539 0))), (6, (.c (.v (.int .i64 x0)))), (21, (.c (.sl .bool x1))), (22, (.c (.v (.int .i64 x2)))), (23, (.c (.v (.int .i64 x3))))], ofList none [(1, some (.cells 23 [(.v (.int .i64 x4)), (.v (.int .i64 x5)), (.v (.int .i64 x6)), (.v (.int .i64 x7)), (.v (.int .i64 x8)), (.v (.int .i64 x9)), (.v (.int .i64 x10)), (.v (.int .i64 x11)), (.v (.int .i64 x12)), (.v (.int .i64 x13)), (.v (.int .i64 x14)), (.v (.int .i64 x15)), (.v (.int .i64 x16)), (.v (.int .i64 x17)), (.v (.int .i64 x18)), (.v (.bool x19)), (.v (.int .i64 x20)), (.v (.int .i64 x21)), (.v (.int .i64 x22)), (.v (.int .i64 x23)), (.v (.int .i64 x24)), (.v (.string x25)), (.v (.bool x26))])), (1539, some (.cells 25 [(.v (.bool x27)), (.v (.int .i64 x28)), (.v (.int .i64 x29)), (.v (.int .i64 x30))]))], ofList false [(1, true), (1539, true)]⟩
noncomputable def lTurns.go  (m : Nat) (x0 : (El TConfig)) (x1 : (List Bool)) : R := run (lTurns.cfg ) 74 lTurns.rs m [.code lTurns.body] (enter (ivA lTurns.ps (x0, x1, ())))
theorem lTurns.start  (m : Nat) (x0 : (El TConfig)) (x1 : (List Bool)) : lTurns.go  (m + 1) x0 x1 =
  test (mayCR.pre (x0, Unit.unit)) (
   cond (Bool.not (mayC x0)) (
    some ((.c (.v (.bool true))), [])) (
    cond (decide (((List.length x1) : Int) > (200 : Int))) (
     some ((.c (.v (.bool true))), [])) (
     lTurns.l1  m (1 : Int) x1 ((List.length x1) : Int) (0 : Int) x0.1 x0.2.1 x0.2.2.1 x0.2.2.2.1 x0.2.2.2.2.1 x0.2.2.2.2.2.1 x0.2.2.2.2.2.2.1 x0.2.2.2.2.2.2.2.1 x0.2.2.2.2.2.2.2.2.1 x0.2.2.2.2.2.2.2.2.2.1 x0.2.2.2.2.2.2.2.2.2.2.1 x0.2.2.2.2.2.2.2.2.2.2.2.1 x0.2.2.2.2.2.2.2.2.2.2.2.2.1 x0.2.2.2.2.2.2.2.2.2.2.2.2.2.1 x0.2.2.2.2.2.2.2.2.2.2.2.2.2.2.1 x0.2.2.2.2.2.2.2.2.2.2.2.2.2.2.2.1 x0.2.2.2.2.2.2.2.2.2.2.2.2.2.2.2.2.1 x0.2.2.2.2.2.2.2.2.2.2.2.2.2.2.2.2.2.1 x0.2.2.2.2.2.2.2.2.2.2.2.2.2.2.2.2.2.2.1 x0.2.2.2.2.2.2.2.2.2.2.2.2.2.2.2.2.2.2.2.1 x0.2.2.2.2.2.2.2.2.2.2.2.2.2.2.2.2.2.2.2.2.1 x0.2.2.2.2.2.2.2.2.2.2.2.2.2.2.2.2.2.2.2.2.2.1 x0.2.2.2.2.2.2.2.2.2.2.2.2.2.2.2.2.2.2.2.2.2.2 true (0 : El (Ty.int IntKind.i64)) (0 : El (Ty.int IntKind.i64)) (0 : El (Ty.int IntKind.i64))))) := by kernel_rfl
theorem lTurns.s1  (m : Nat) (x0 : Int) (x1 : List Bool) (x2 : Int) (x3 : Int) (x4 : Int) (x5 : Int) (x6 : Int) (x7 : Int) (x8 : Int) (x9 : Int) (x10 : Int) (x11 : Int) (x12 : Int) (x13 : Int) (x14 : Int) (x15 : Int) (x16 : Int) (x17 : Int) (x18 : Int) (x19 : Bool) (x20 : Int) (x21 : Int) (x22 : Int) (x23 : Int) (x24 : Int) (x25 : ByteArray) (x26 : Bool) (x27 : Bool) (x28 : Int) (x29 : Int) (x30 : Int) : lTurns.l1  (m + 1) x0 x1 x2 x3 x4 x5 x6 x7 x8 x9 x10 x11 x12 x13 x14 x15 x16 x17 x18 x19 x20 x21 x22 x23 x24 x25 x26 x27 x28 x29 x30 =
  cond (decide (x3 < x2)) (
   test (decide ((0 : Int) ≤ x3)) (
    test (decide (x3 < ((List.length x1) : Int))) (
     test (endP.pre ((x4, (x5, (x6, (x7, (x8, (x9, (x10, (x11, (x12, (x13, (x14, (x15, (x16, (x17, (x18, (x19, (x20, (x21, (x22, (x23, (x24, (x25, x26)))))))))))))))))))))), ((x27, (x28, (x29, x30))), ((rdEl .bool x1 (Int.toNat x3)), Unit.unit)))) (
      cond (bne (endM (x4, (x5, (x6, (x7, (x8, (x9, (x10, (x11, (x12, (x13, (x14, (x15, (x16, (x17, (x18, (x19, (x20, (x21, (x22, (x23, (x24, (x25, x26)))))))))))))))))))))) (x27, (x28, (x29, x30))) (rdEl .bool x1 (Int.toNat x3))) (0 : Int)) (
       cond ((endM (x4, (x5, (x6, (x7, (x8, (x9, (x10, (x11, (x12, (x13, (x14, (x15, (x16, (x17, (x18, (x19, (x20, (x21, (x22, (x23, (x24, (x25, x26)))))))))))))))))))))) (x27, (x28, (x29, x30))) (rdEl .bool x1 (Int.toNat x3))) == x0) (
        some ((.c (.v (.bool false))), [])) (
        cond (Bool.not (((endM (x4, (x5, (x6, (x7, (x8, (x9, (x10, (x11, (x12, (x13, (x14, (x15, (x16, (x17, (x18, (x19, (x20, (x21, (x22, (x23, (x24, (x25, x26)))))))))))))))))))))) (x27, (x28, (x29, x30))) (rdEl .bool x1 (Int.toNat x3))) == (1 : Int)) == (rdEl .bool x1 (Int.toNat x3)))) (
         some ((.c (.v (.bool false))), [])) (
         cond (Bool.not ((wellB ((endQ (x4, (x5, (x6, (x7, (x8, (x9, (x10, (x11, (x12, (x13, (x14, (x15, (x16, (x17, (x18, (x19, (x20, (x21, (x22, (x23, (x24, (x25, x26)))))))))))))))))))))) (x27, (x28, (x29, x30))) (rdEl .bool x1 (Int.toNat x3))))) == ((endM (x4, (x5, (x6, (x7, (x8, (x9, (x10, (x11, (x12, (x13, (x14, (x15, (x16, (x17, (x18, (x19, (x20, (x21, (x22, (x23, (x24, (x25, x26)))))))))))))))))))))) (x27, (x28, (x29, x30))) (rdEl .bool x1 (Int.toNat x3))) == (1 : Int)))) (
          some ((.c (.v (.bool false))), [])) (
          cond (decide ((((endQ (x4, (x5, (x6, (x7, (x8, (x9, (x10, (x11, (x12, (x13, (x14, (x15, (x16, (x17, (x18, (x19, (x20, (x21, (x22, (x23, (x24, (x25, x26)))))))))))))))))))))) (x27, (x28, (x29, x30))) (rdEl .bool x1 (Int.toNat x3)))).2).1 < (0 : Int))) (
           some ((.c (.v (.bool false))), [])) (
           cond (decide ((((endQ (x4, (x5, (x6, (x7, (x8, (x9, (x10, (x11, (x12, (x13, (x14, (x15, (x16, (x17, (x18, (x19, (x20, (x21, (x22, (x23, (x24, (x25, x26)))))))))))))))))))))) (x27, (x28, (x29, x30))) (rdEl .bool x1 (Int.toNat x3)))).2).1 ≥ (ite (x8 > x7) x8 x7))) (
            some ((.c (.v (.bool false))), [])) (
            cond (bne ((((endQ (x4, (x5, (x6, (x7, (x8, (x9, (x10, (x11, (x12, (x13, (x14, (x15, (x16, (x17, (x18, (x19, (x20, (x21, (x22, (x23, (x24, (x25, x26)))))))))))))))))))))) (x27, (x28, (x29, x30))) (rdEl .bool x1 (Int.toNat x3)))).2).2).2 (0 : Int)) (
             some ((.c (.v (.bool false))), [])) (
             lTurns.l1  m (endM (x4, (x5, (x6, (x7, (x8, (x9, (x10, (x11, (x12, (x13, (x14, (x15, (x16, (x17, (x18, (x19, (x20, (x21, (x22, (x23, (x24, (x25, x26)))))))))))))))))))))) (x27, (x28, (x29, x30))) (rdEl .bool x1 (Int.toNat x3))) x1 x2 (IntKind.i64.wrap (x3 + (1 : Int))) x4 x5 x6 x7 x8 x9 x10 x11 x12 x13 x14 x15 x16 x17 x18 x19 x20 x21 x22 x23 x24 x25 x26 ((endQ (x4, (x5, (x6, (x7, (x8, (x9, (x10, (x11, (x12, (x13, (x14, (x15, (x16, (x17, (x18, (x19, (x20, (x21, (x22, (x23, (x24, (x25, x26)))))))))))))))))))))) (x27, (x28, (x29, x30))) (rdEl .bool x1 (Int.toNat x3)))).1 (((endQ (x4, (x5, (x6, (x7, (x8, (x9, (x10, (x11, (x12, (x13, (x14, (x15, (x16, (x17, (x18, (x19, (x20, (x21, (x22, (x23, (x24, (x25, x26)))))))))))))))))))))) (x27, (x28, (x29, x30))) (rdEl .bool x1 (Int.toNat x3)))).2).1 ((((endQ (x4, (x5, (x6, (x7, (x8, (x9, (x10, (x11, (x12, (x13, (x14, (x15, (x16, (x17, (x18, (x19, (x20, (x21, (x22, (x23, (x24, (x25, x26)))))))))))))))))))))) (x27, (x28, (x29, x30))) (rdEl .bool x1 (Int.toNat x3)))).2).2).1 ((((endQ (x4, (x5, (x6, (x7, (x8, (x9, (x10, (x11, (x12, (x13, (x14, (x15, (x16, (x17, (x18, (x19, (x20, (x21, (x22, (x23, (x24, (x25, x26)))))))))))))))))))))) (x27, (x28, (x29, x30))) (rdEl .bool x1 (Int.toNat x3)))).2).2).2))))))) (
       cond (Bool.not ((wellB ((endQ (x4, (x5, (x6, (x7, (x8, (x9, (x10, (x11, (x12, (x13, (x14, (x15, (x16, (x17, (x18, (x19, (x20, (x21, (x22, (x23, (x24, (x25, x26)))))))))))))))))))))) (x27, (x28, (x29, x30))) (rdEl .bool x1 (Int.toNat x3))))) == (x0 == (1 : Int)))) (
        some ((.c (.v (.bool false))), [])) (
        cond (decide ((((endQ (x4, (x5, (x6, (x7, (x8, (x9, (x10, (x11, (x12, (x13, (x14, (x15, (x16, (x17, (x18, (x19, (x20, (x21, (x22, (x23, (x24, (x25, x26)))))))))))))))))))))) (x27, (x28, (x29, x30))) (rdEl .bool x1 (Int.toNat x3)))).2).1 < (0 : Int))) (
         some ((.c (.v (.bool false))), [])) (
         cond (decide ((((endQ (x4, (x5, (x6, (x7, (x8, (x9, (x10, (x11, (x12, (x13, (x14, (x15, (x16, (x17, (x18, (x19, (x20, (x21, (x22, (x23, (x24, (x25, x26)))))))))))))))))))))) (x27, (x28, (x29, x30))) (rdEl .bool x1 (Int.toNat x3)))).2).1 ≥ (ite (x8 > x7) x8 x7))) (
          some ((.c (.v (.bool false))), [])) (
          cond (bne ((((endQ (x4, (x5, (x6, (x7, (x8, (x9, (x10, (x11, (x12, (x13, (x14, (x15, (x16, (x17, (x18, (x19, (x20, (x21, (x22, (x23, (x24, (x25, x26)))))))))))))))))))))) (x27, (x28, (x29, x30))) (rdEl .bool x1 (Int.toNat x3)))).2).2).2 (0 : Int)) (
           some ((.c (.v (.bool false))), [])) (
           lTurns.l1  m x0 x1 x2 (IntKind.i64.wrap (x3 + (1 : Int))) x4 x5 x6 x7 x8 x9 x10 x11 x12 x13 x14 x15 x16 x17 x18 x19 x20 x21 x22 x23 x24 x25 x26 ((endQ (x4, (x5, (x6, (x7, (x8, (x9, (x10, (x11, (x12, (x13, (x14, (x15, (x16, (x17, (x18, (x19, (x20, (x21, (x22, (x23, (x24, (x25, x26)))))))))))))))))))))) (x27, (x28, (x29, x30))) (rdEl .bool x1 (Int.toNat x3)))).1 (((endQ (x4, (x5, (x6, (x7, (x8, (x9, (x10, (x11, (x12, (x13, (x14, (x15, (x16, (x17, (x18, (x19, (x20, (x21, (x22, (x23, (x24, (x25, x26)))))))))))))))))))))) (x27, (x28, (x29, x30))) (rdEl .bool x1 (Int.toNat x3)))).2).1 ((((endQ (x4, (x5, (x6, (x7, (x8, (x9, (x10, (x11, (x12, (x13, (x14, (x15, (x16, (x17, (x18, (x19, (x20, (x21, (x22, (x23, (x24, (x25, x26)))))))))))))))))))))) (x27, (x28, (x29, x30))) (rdEl .bool x1 (Int.toNat x3)))).2).2).1 ((((endQ (x4, (x5, (x6, (x7, (x8, (x9, (x10, (x11, (x12, (x13, (x14, (x15, (x16, (x17, (x18, (x19, (x20, (x21, (x22, (x23, (x24, (x25, x26)))))))))))))))))))))) (x27, (x28, (x29, x30))) (rdEl .bool x1 (Int.toNat x3)))).2).2).2))))))))) (
   some ((.c (.v (.bool true))), [])) := by kernel_rfl
theorem lTurns.run_eq  (m : Nat) (x0 : (El TConfig)) (x1 : (List Bool)) : run (lTurns.cfg ) Tryd.f6.ntmps Tryd.f6.results.toList m [.code (bodyOf Tryd.f6)] (enter (ivA lTurns.ps (x0, x1, ()))) = lTurns.go  m x0 x1 := by kernel_rfl
theorem lTurns.ret  (hs : SpecsOK Tryd.prog (lTurns.specs ))  (x0 : (El TConfig)) (x1 : (List Bool)) {m : Nat} {r : IV} (h : lTurns.go  m x0 x1 = some (r, [])) : VE.Returns Tryd.prog 6 (ivA lTurns.ps (x0, x1, ())) r :=
  returns_of_run (cfg := lTurns.cfg ) (cfgOK_of mixed tab_ok hs .nil) rfl Tryd.func6 (body_some (by kernel_rfl)) (Nat.le_of_ble_eq_true (by kernel_rfl)) ((lTurns.run_eq  m x0 x1).trans h)
abbrev lTurns.Law : Prop := ∀ (x0 : (El TConfig)) (x1 : (List Bool)), lTurns.pre (x0, x1, ()) = true → VE.Returns Tryd.prog 6 (ivA lTurns.ps (x0, x1, ())) (lTurns.res (x0, x1, ()))
theorem lTurns.mkR (H : ∀ (x0 : (El TConfig)) (x1 : (List Bool)), lTurns.pre (x0, x1, ()) = true → VE.Returns Tryd.prog 6 (ivA lTurns.ps (x0, x1, ())) (lTurns.res (x0, x1, ()))) : SpecOK Tryd.prog 6 lTurns.sp :=
  specOf_ret Tryd.func6 (by kernel_rfl) (by kernel_rfl) fun (x : (El TConfig) × (List Bool) × Unit) hx => H (x.1) (x.2.1) hx
theorem lTurns.mk  (hs : SpecsOK Tryd.prog (lTurns.specs ))  (H : ∀ (x0 : (El TConfig)) (x1 : (List Bool)), lTurns.pre (x0, x1, ()) = true → ∃ m, lTurns.go  m x0 x1 = some (lTurns.res (x0, x1, ()), [])) : SpecOK Tryd.prog 6 lTurns.sp :=
  lTurns.mkR fun x0 x1 hx => (H x0 x1 hx).elim fun _ hm => lTurns.ret  hs  x0 x1 hm

end Go.Proofs.YtdigifchnecnkaaDoor
