/-
  Steps of the bodies, from checkpoint to checkpoint (printed by wip/VE/mk2.py).
-/
import Derived.Test.YtaikjghfccenfaaT
import Derived.Test.YtaikjghfccenfaaCA
namespace Go.Proofs.Ytaikjghfccenfaa
open Go VE

/-! ### triage/lines.Name -/
abbrev word.ps : List AK := [.d false .str]
def word.pre : ElA word.ps → Bool := fun (x : ByteArray × Unit) => fits .str (x.1) && (true)
def word.res : ElA word.ps → IV := fun (x : ByteArray × Unit) => (fun s => vb (wordB s)) x.1
def word.sp : ISpec := spOf word.ps word.pre word.res
abbrev word.OK : Prop := SpecOK Try.prog 21 word.sp
noncomputable def word.body : Code := bodyOf Try.f21
noncomputable def word.rs : List ResultVar := Try.f21.results.toList
def word.live : List (Nat × Live) := [(2, ⟨[(0, .plain), (6, .plain), (7, .plain)], []⟩)]
noncomputable def word.specs  : List (Nat × (List Bool × ISpec)) := []
noncomputable def word.ospecs  : List (Nat × OS) := []
noncomputable def word.cfg  : Cfg := ⟨lkp tab, lkp (word.specs ), lkp word.live, ⟨lkp (word.ospecs ), [], none⟩⟩
noncomputable def word.l1  (m : Nat) (x0 : ByteArray) (x1 : Int) (x2 : Int) : R := run (word.cfg ) 48 word.rs m ((todoR 2 word.body []).getD []) ⟨ofList (.c .junk) [(0, (.c (.v (.string x0)))), (6, (.c (.v (.int .i64 x1)))), (7, (.c (.v (.int .i64 x2))))], ofList none [], ofList false []⟩
noncomputable def word.go  (m : Nat) (x0 : ByteArray) : R := run (word.cfg ) 48 word.rs m [.code word.body] (enter (ivA word.ps (x0, ())))
theorem word.start  (m : Nat) (x0 : ByteArray) : word.go  (m + 1) x0 =
  word.l1  m x0 ((ByteArray.size x0) : Int) (0 : Int) := by kernel_rfl
theorem word.s1  (m : Nat) (x0 : ByteArray) (x1 : Int) (x2 : Int) : word.l1  (m + 1) x0 x1 x2 =
  cond (decide (x2 < x1)) (
   test (decide ((0 : Int) ≤ x2)) (
    test (decide (x2 < ((ByteArray.size x0) : Int))) (
     cond (decide ((byteAt x0 x2) < (97 : Int))) (
      cond (decide ((byteAt x0 x2) < (48 : Int))) (
       cond (bne (byteAt x0 x2) (45 : Int)) (
        cond (bne (byteAt x0 x2) (46 : Int)) (
         some ((.c (.v (.bool false))), [])) (
         word.l1  m x0 x1 (IntKind.i64.wrap (x2 + (1 : Int))))) (
        word.l1  m x0 x1 (IntKind.i64.wrap (x2 + (1 : Int))))) (
       cond (decide ((byteAt x0 x2) > (57 : Int))) (
        cond (bne (byteAt x0 x2) (45 : Int)) (
         cond (bne (byteAt x0 x2) (46 : Int)) (
          some ((.c (.v (.bool false))), [])) (
          word.l1  m x0 x1 (IntKind.i64.wrap (x2 + (1 : Int))))) (
         word.l1  m x0 x1 (IntKind.i64.wrap (x2 + (1 : Int))))) (
        word.l1  m x0 x1 (IntKind.i64.wrap (x2 + (1 : Int)))))) (
      cond (decide ((byteAt x0 x2) > (122 : Int))) (
       cond (decide ((byteAt x0 x2) < (48 : Int))) (
        cond (bne (byteAt x0 x2) (45 : Int)) (
         cond (bne (byteAt x0 x2) (46 : Int)) (
          some ((.c (.v (.bool false))), [])) (
          word.l1  m x0 x1 (IntKind.i64.wrap (x2 + (1 : Int))))) (
         word.l1  m x0 x1 (IntKind.i64.wrap (x2 + (1 : Int))))) (
        cond (decide ((byteAt x0 x2) > (57 : Int))) (
         cond (bne (byteAt x0 x2) (45 : Int)) (
          cond (bne (byteAt x0 x2) (46 : Int)) (
           some ((.c (.v (.bool false))), [])) (
           word.l1  m x0 x1 (IntKind.i64.wrap (x2 + (1 : Int))))) (
          word.l1  m x0 x1 (IntKind.i64.wrap (x2 + (1 : Int))))) (
         word.l1  m x0 x1 (IntKind.i64.wrap (x2 + (1 : Int)))))) (
       word.l1  m x0 x1 (IntKind.i64.wrap (x2 + (1 : Int)))))))) (
   cond (decide (((ByteArray.size x0) : Int) ≥ (1 : Int))) (
    cond (decide (((ByteArray.size x0) : Int) ≤ (12 : Int))) (
     some ((.c (.v (.bool (Bool.not ((ByteArray.toList x0) == (ByteArray.toList (⟨#[45]⟩ : ByteArray))))))), [])) (
     some ((.c (.v (.bool false))), []))) (
    some ((.c (.v (.bool false))), []))) := by kernel_rfl
theorem word.run_eq  (m : Nat) (x0 : ByteArray) : run (word.cfg ) Try.f21.ntmps Try.f21.results.toList m [.code (bodyOf Try.f21)] (enter (ivA word.ps (x0, ()))) = word.go  m x0 := by kernel_rfl
theorem word.ret  (hs : SpecsOK Try.prog (word.specs ))  (x0 : ByteArray) {m : Nat} {r : IV} (h : word.go  m x0 = some (r, [])) : VE.Returns Try.prog 21 (ivA word.ps (x0, ())) r :=
  returns_of_run (cfg := word.cfg ) (cfgOK_of mixed tab_ok hs .nil) rfl Try.func21 (body_some (by kernel_rfl)) (Nat.le_of_ble_eq_true (by kernel_rfl)) ((word.run_eq  m x0).trans h)
abbrev word.Law : Prop := ∀ (x0 : ByteArray), word.pre (x0, ()) = true → VE.Returns Try.prog 21 (ivA word.ps (x0, ())) (word.res (x0, ()))
theorem word.mkR (H : ∀ (x0 : ByteArray), word.pre (x0, ()) = true → VE.Returns Try.prog 21 (ivA word.ps (x0, ())) (word.res (x0, ()))) : SpecOK Try.prog 21 word.sp :=
  specOf_ret Try.func21 (by kernel_rfl) (by kernel_rfl) fun (x : ByteArray × Unit) hx => H (x.1) hx
theorem word.mk  (hs : SpecsOK Try.prog (word.specs ))  (H : ∀ (x0 : ByteArray), word.pre (x0, ()) = true → ∃ m, word.go  m x0 = some (word.res (x0, ()), [])) : SpecOK Try.prog 21 word.sp :=
  word.mkR fun x0 hx => (H x0 hx).elim fun _ hm => word.ret  hs  x0 hm

/-! ### triage/triageref1.Word -/
abbrev wordR.ps : List AK := [.d false .str]
def wordR.pre : ElA wordR.ps → Bool := fun (x : ByteArray × Unit) => fits .str (x.1) && (true)
def wordR.res : ElA wordR.ps → IV := fun (x : ByteArray × Unit) => (fun s => vb (wordB s)) x.1
def wordR.sp : ISpec := spOf wordR.ps wordR.pre wordR.res
abbrev wordR.OK : Prop := SpecOK Try.prog 18 wordR.sp
noncomputable def wordR.body : Code := bodyOf Try.f18
noncomputable def wordR.rs : List ResultVar := Try.f18.results.toList
def wordR.live : List (Nat × Live) := [(4, ⟨[(0, .plain), (18, .plain), (19, .plain)], []⟩)]
noncomputable def wordR.specs  : List (Nat × (List Bool × ISpec)) := []
noncomputable def wordR.ospecs  : List (Nat × OS) := []
noncomputable def wordR.cfg  : Cfg := ⟨lkp tab, lkp (wordR.specs ), lkp wordR.live, ⟨lkp (wordR.ospecs ), [], none⟩⟩
noncomputable def wordR.l1  (m : Nat) (x0 : ByteArray) (x1 : Int) (x2 : Int) : R := run (wordR.cfg ) 48 wordR.rs m ((todoR 4 wordR.body []).getD []) ⟨ofList (.c .junk) [(0, (.c (.v (.string x0)))), (18, (.c (.v (.int .i64 x1)))), (19, (.c (.v (.int .i64 x2))))], ofList none [], ofList false []⟩
noncomputable def wordR.go  (m : Nat) (x0 : ByteArray) : R := run (wordR.cfg ) 48 wordR.rs m [.code wordR.body] (enter (ivA wordR.ps (x0, ())))
theorem wordR.start  (m : Nat) (x0 : ByteArray) : wordR.go  (m + 1) x0 =
  cond (decide (((ByteArray.size x0) : Int) < (1 : Int))) (
   some ((.c (.v (.bool false))), [])) (
   cond (decide (((ByteArray.size x0) : Int) > (12 : Int))) (
    some ((.c (.v (.bool false))), [])) (
    cond ((ByteArray.toList x0) == (ByteArray.toList (⟨#[45]⟩ : ByteArray))) (
     some ((.c (.v (.bool false))), [])) (
     wordR.l1  m x0 ((ByteArray.size x0) : Int) (0 : Int)))) := by kernel_rfl
theorem wordR.s1  (m : Nat) (x0 : ByteArray) (x1 : Int) (x2 : Int) : wordR.l1  (m + 1) x0 x1 x2 =
  cond (decide (x2 < x1)) (
   test (decide ((0 : Int) ≤ x2)) (
    test (decide (x2 < ((ByteArray.size x0) : Int))) (
     cond (decide ((byteAt x0 x2) < (97 : Int))) (
      cond (decide ((byteAt x0 x2) < (48 : Int))) (
       cond (bne (byteAt x0 x2) (45 : Int)) (
        cond (bne (byteAt x0 x2) (46 : Int)) (
         some ((.c (.v (.bool false))), [])) (
         wordR.l1  m x0 x1 (IntKind.i64.wrap (x2 + (1 : Int))))) (
        wordR.l1  m x0 x1 (IntKind.i64.wrap (x2 + (1 : Int))))) (
       cond (decide ((byteAt x0 x2) > (57 : Int))) (
        cond (bne (byteAt x0 x2) (45 : Int)) (
         cond (bne (byteAt x0 x2) (46 : Int)) (
          some ((.c (.v (.bool false))), [])) (
          wordR.l1  m x0 x1 (IntKind.i64.wrap (x2 + (1 : Int))))) (
         wordR.l1  m x0 x1 (IntKind.i64.wrap (x2 + (1 : Int))))) (
        wordR.l1  m x0 x1 (IntKind.i64.wrap (x2 + (1 : Int)))))) (
      cond (decide ((byteAt x0 x2) > (122 : Int))) (
       cond (decide ((byteAt x0 x2) < (48 : Int))) (
        cond (bne (byteAt x0 x2) (45 : Int)) (
         cond (bne (byteAt x0 x2) (46 : Int)) (
          some ((.c (.v (.bool false))), [])) (
          wordR.l1  m x0 x1 (IntKind.i64.wrap (x2 + (1 : Int))))) (
         wordR.l1  m x0 x1 (IntKind.i64.wrap (x2 + (1 : Int))))) (
        cond (decide ((byteAt x0 x2) > (57 : Int))) (
         cond (bne (byteAt x0 x2) (45 : Int)) (
          cond (bne (byteAt x0 x2) (46 : Int)) (
           some ((.c (.v (.bool false))), [])) (
           wordR.l1  m x0 x1 (IntKind.i64.wrap (x2 + (1 : Int))))) (
          wordR.l1  m x0 x1 (IntKind.i64.wrap (x2 + (1 : Int))))) (
         wordR.l1  m x0 x1 (IntKind.i64.wrap (x2 + (1 : Int)))))) (
       wordR.l1  m x0 x1 (IntKind.i64.wrap (x2 + (1 : Int)))))))) (
   some ((.c (.v (.bool true))), [])) := by kernel_rfl
theorem wordR.run_eq  (m : Nat) (x0 : ByteArray) : run (wordR.cfg ) Try.f18.ntmps Try.f18.results.toList m [.code (bodyOf Try.f18)] (enter (ivA wordR.ps (x0, ()))) = wordR.go  m x0 := by kernel_rfl
theorem wordR.ret  (hs : SpecsOK Try.prog (wordR.specs ))  (x0 : ByteArray) {m : Nat} {r : IV} (h : wordR.go  m x0 = some (r, [])) : VE.Returns Try.prog 18 (ivA wordR.ps (x0, ())) r :=
  returns_of_run (cfg := wordR.cfg ) (cfgOK_of mixed tab_ok hs .nil) rfl Try.func18 (body_some (by kernel_rfl)) (Nat.le_of_ble_eq_true (by kernel_rfl)) ((wordR.run_eq  m x0).trans h)
abbrev wordR.Law : Prop := ∀ (x0 : ByteArray), wordR.pre (x0, ()) = true → VE.Returns Try.prog 18 (ivA wordR.ps (x0, ())) (wordR.res (x0, ()))
theorem wordR.mkR (H : ∀ (x0 : ByteArray), wordR.pre (x0, ()) = true → VE.Returns Try.prog 18 (ivA wordR.ps (x0, ())) (wordR.res (x0, ()))) : SpecOK Try.prog 18 wordR.sp :=
  specOf_ret Try.func18 (by kernel_rfl) (by kernel_rfl) fun (x : ByteArray × Unit) hx => H (x.1) hx
theorem wordR.mk  (hs : SpecsOK Try.prog (wordR.specs ))  (H : ∀ (x0 : ByteArray), wordR.pre (x0, ()) = true → ∃ m, wordR.go  m x0 = some (wordR.res (x0, ()), [])) : SpecOK Try.prog 18 wordR.sp :=
  wordR.mkR fun x0 hx => (H x0 hx).elim fun _ hm => wordR.ret  hs  x0 hm

/-! ### triage/config.numbers -/
abbrev numbers.ps : List AK := [.q TConfig]
def numbers.pre : ElA numbers.ps → Bool := fun (x : (El TConfig) × Unit) => fits TConfig (x.1) && (true)
def numbers.rv : ElA numbers.ps → List RV := fun (x : (El TConfig) × Unit) => [.m 52 TNum ((fun c => firstL c) x.1), .m 52 TNum ((fun c => secondL c) x.1)]
def numbers.res : ElA numbers.ps → IV := fun x => oneOrTup (rvIVs 0 (numbers.rv x))
def numbers.back : ElA numbers.ps → List (Nat × Box) := fun (x : (El TConfig) × Unit) => rvBxs 0 (numbers.rv x)
def numbers.sp : OSpec := spO numbers.ps numbers.pre numbers.res numbers.back
abbrev numbers.OK : Prop := SpecOKO Try.prog 20 numbers.sp
noncomputable def numbers.body : Code := bodyOf Try.f20
noncomputable def numbers.rs : List ResultVar := Try.f20.results.toList
def numbers.live : List (Nat × Live) := []
noncomputable def numbers.specs  : List (Nat × (List Bool × ISpec)) := []
noncomputable def numbers.ospecs  : List (Nat × OS) := []
noncomputable def numbers.cfg  : Cfg := ⟨lkp tab, lkp (numbers.specs ), lkp numbers.live, ⟨lkp (numbers.ospecs ), oids 0 numbers.ps, some ([.arr 52 TNum, .arr 52 TNum], [])⟩⟩
noncomputable def numbers.go  (m : Nat) (x0 : (El TConfig)) : R := run (numbers.cfg ) 82 numbers.rs m [.code numbers.body] (enterO (ivAO 0 numbers.ps (x0, ())) (bxAO 0 numbers.ps (x0, ())))
theorem numbers.start  (m : Nat) (x0 : (El TConfig)) : numbers.go  (m + 1) x0 =
  some ((.tup [(.c (.sref 115326)), (.c (.sref 115454))]), [(115326, (.arr 52 TNum (((⟨#[105, 110, 116, 101, 114, 118, 97, 108]⟩ : ByteArray), (x0.1, ((10 : Int), (10000 : Int)))) :: (((⟨#[116, 105, 109, 101, 111, 117, 116]⟩ : ByteArray), (x0.2.1, ((1 : Int), (10000 : Int)))) :: (((⟨#[106, 105, 116, 116, 101, 114]⟩ : ByteArray), (x0.2.2.1, ((0 : Int), (1000 : Int)))) :: (((⟨#[114, 105, 115, 101]⟩ : ByteArray), (x0.2.2.2.1, ((1 : Int), (10 : Int)))) :: (((⟨#[102, 97, 108, 108]⟩ : ByteArray), (x0.2.2.2.2.1, ((1 : Int), (10 : Int)))) :: (((⟨#[112, 97, 110, 105, 99]⟩ : ByteArray), (x0.2.2.2.2.2.1, ((0 : Int), (100 : Int)))) :: (((⟨#[111, 118, 101, 114]⟩ : ByteArray), (x0.2.2.2.2.2.2.1, ((100 : Int), (1000 : Int)))) :: (((⟨#[101, 114, 114, 111, 114, 115]⟩ : ByteArray), (x0.2.2.2.2.2.2.2.1, ((0 : Int), (100 : Int)))) :: (((⟨#[115, 119, 101, 101, 112]⟩ : ByteArray), (x0.2.2.2.2.2.2.2.2.1, ((10 : Int), (10000 : Int)))) :: (((⟨#[104, 111, 115, 116, 115]⟩ : ByteArray), (x0.2.2.2.2.2.2.2.2.2.1, ((1 : Int), (64 : Int)))) :: (((⟨#[114, 101, 113, 117, 101, 115, 116, 115]⟩ : ByteArray), (x0.2.2.2.2.2.2.2.2.2.2.1, ((1 : Int), (1000 : Int)))) :: (((⟨#[102, 97, 99, 116, 111, 114]⟩ : ByteArray), (x0.2.2.2.2.2.2.2.2.2.2.2.1, ((0 : Int), (10000 : Int)))) :: (((⟨#[102, 97, 105, 108, 115]⟩ : ByteArray), (x0.2.2.2.2.2.2.2.2.2.2.2.2.1, ((0 : Int), (100 : Int)))) :: (((⟨#[98, 97, 115, 101]⟩ : ByteArray), (x0.2.2.2.2.2.2.2.2.2.2.2.2.2.1, ((1 : Int), (10000 : Int)))) :: (((⟨#[101, 106, 101, 99, 116]⟩ : ByteArray), (x0.2.2.2.2.2.2.2.2.2.2.2.2.2.2.1, ((0 : Int), (100 : Int)))) :: ([] : List (El TNum))))))))))))))))) false)), (115454, (.arr 52 TNum (((⟨#[115, 108, 111, 119]⟩ : ByteArray), (x0.2.2.2.2.2.2.2.2.2.2.2.2.2.2.2.2.1, ((0 : Int), (10000 : Int)))) :: (((⟨#[100, 114, 97, 105, 110]⟩ : ByteArray), (x0.2.2.2.2.2.2.2.2.2.2.2.2.2.2.2.2.2.1, ((1 : Int), (10000 : Int)))) :: (((⟨#[104, 111, 115, 116, 108, 105, 109, 105, 116]⟩ : ByteArray), (x0.2.2.2.2.2.2.2.2.2.2.2.2.2.2.2.2.2.2.1, ((1 : Int), (1000 : Int)))) :: (((⟨#[112, 111, 111, 108, 108, 105, 109, 105, 116]⟩ : ByteArray), (x0.2.2.2.2.2.2.2.2.2.2.2.2.2.2.2.2.2.2.2.1, ((1 : Int), (10000 : Int)))) :: ([] : List (El TNum)))))) false))]) := by kernel_rfl
theorem numbers.run_eq  (m : Nat) (x0 : (El TConfig)) : run (numbers.cfg ) Try.f20.ntmps Try.f20.results.toList m [.code (bodyOf Try.f20)] (enterO (ivAO 0 numbers.ps (x0, ())) (bxAO 0 numbers.ps (x0, ()))) = numbers.go  m x0 := by kernel_rfl
theorem numbers.ret  (hs : SpecsOK Try.prog (numbers.specs ))  (x0 : (El TConfig)) {m : Nat} {r : IV} {b : List (Nat × Box)} (h : numbers.go  m x0 = some (r, b)) : VE.ReturnsO Try.prog 20 (ivAO 0 numbers.ps (x0, ())) (bxAO 0 numbers.ps (x0, ())) r b :=
  returnsO_of_run (cfg := numbers.cfg ) (cfgOK_of mixed tab_ok hs .nil) rfl Try.func20 (body_some (by kernel_rfl)) (Nat.le_of_ble_eq_true (by kernel_rfl)) (fun _ _ _ h => oids_mem h) ((numbers.run_eq  m x0).trans h)
abbrev numbers.Law : Prop := ∀ (x0 : (El TConfig)), numbers.pre (x0, ()) = true → VE.ReturnsO Try.prog 20 (ivAO 0 numbers.ps (x0, ())) (bxAO 0 numbers.ps (x0, ())) (numbers.res (x0, ())) (numbers.back (x0, ()))
theorem numbers.mkR (H : ∀ (x0 : (El TConfig)), numbers.pre (x0, ()) = true → VE.ReturnsO Try.prog 20 (ivAO 0 numbers.ps (x0, ())) (bxAO 0 numbers.ps (x0, ())) (numbers.res (x0, ())) (numbers.back (x0, ()))) : SpecOKO Try.prog 20 numbers.sp :=
  specO_ret Try.func20 (by kernel_rfl) (by kernel_rfl) fun (x : (El TConfig) × Unit) hx => H (x.1) hx
theorem numbers.mk  (hs : SpecsOK Try.prog (numbers.specs ))  (H : ∀ (x0 : (El TConfig)), numbers.pre (x0, ()) = true → ∃ m, numbers.go  m x0 = some (numbers.res (x0, ()), numbers.back (x0, ()))) : SpecOKO Try.prog 20 numbers.sp :=
  numbers.mkR fun x0 hx => (H x0 hx).elim fun _ hm => numbers.ret  hs  x0 hm

/-! ### triage/config.May -/
abbrev cMay.ps : List AK := [.d true TConfig]
def cMay.pre : ElA cMay.ps → Bool := fun (x : (El TConfig) × Unit) => fits TConfig (x.1) && (true)
def cMay.res : ElA cMay.ps → IV := fun (x : (El TConfig) × Unit) => (fun c => vb (mayC c)) x.1
def cMay.sp : ISpec := spOf cMay.ps cMay.pre cMay.res
abbrev cMay.OK : Prop := SpecOK Try.prog 13 cMay.sp
noncomputable def cMay.body : Code := bodyOf Try.f13
noncomputable def cMay.rs : List ResultVar := Try.f13.results.toList
def cMay.live : List (Nat × Live) := [(3, ⟨[(1, .plain), (13, .sl TNum), (14, .plain), (15, .plain)], [(1, [])]⟩)]
noncomputable def cMay.specs  : List (Nat × (List Bool × ISpec)) := [(21, ([], word.sp))]
noncomputable def cMay.ospecs  : List (Nat × OS) := [(20, ⟨[], [true], numbers.sp⟩)]
noncomputable def cMay.cfg  : Cfg := ⟨lkp tab, lkp (cMay.specs ), lkp cMay.live, ⟨lkp (cMay.ospecs ), [], none⟩⟩
noncomputable def cMay.l1  (m : Nat) (x0 : List (El TNum)) (x1 : Int) (x2 : Int) (x3 : Int) (x4 : Int) (x5 : Int) (x6 : Int) (x7 : Int) (x8 : Int) (x9 : Int) (x10 : Int) (x11 : Int) (x12 : Int) (x13 : Int) (x14 : Int) (x15 : Int) (x16 : Int) (x17 : Int) (x18 : Bool) (x19 : Int) (x20 : Int) (x21 : Int) (x22 : Int) (x23 : Int) (x24 : ByteArray) (x25 : Bool) : R := run (cMay.cfg ) 54 cMay.rs m ((todoR 3 cMay.body []).getD []) ⟨ofList (.c .junk) [(1, (.c (.ref 1 0))), (13, (.c (.sl TNum x0))), (14, (.c (.v (.int .i64 x1)))), (15, (.c (.v (.int .i64 x2))))], ofList none [(1, some (.ice 23 [(.v (.int .i64 x3)), (.v (.int .i64 x4)), (.v (.int .i64 x5)), (.v (.int .i64 x6)), (.v (.int .i64 x7)), (.v (.int .i64 x8)), (.v (.int .i64 x9)), (.v (.int .i64 x10)), (.v (.int .i64 x11)), (.v (.int .i64 x12)), (.v (.int .i64 x13)), (.v (.int .i64 x14)), (.v (.int .i64 x15)), (.v (.int .i64 x16)), (.v (.int .i64 x17)), (.v (.bool x18)), (.v (.int .i64 x19)), (.v (.int .i64 x20)), (.v (.int .i64 x21)), (.v (.int .i64 x22)), (.v (.int .i64 x23)), (.v (.string x24)), (.v (.bool x25))]))], ofList false [(1, true)]⟩
noncomputable def cMay.go  (m : Nat) (x0 : (El TConfig)) : R := run (cMay.cfg ) 54 cMay.rs m [.code cMay.body] (enter (ivA cMay.ps (x0, ())))
theorem cMay.start  (m : Nat) (x0 : (El TConfig)) : cMay.go  (m + 1) x0 =
  test (numbers.pre (x0, Unit.unit)) (
   cMay.l1  m ((firstL x0) ++ (secondL x0)) ((List.length ((firstL x0) ++ (secondL x0))) : Int) (0 : Int) x0.1 x0.2.1 x0.2.2.1 x0.2.2.2.1 x0.2.2.2.2.1 x0.2.2.2.2.2.1 x0.2.2.2.2.2.2.1 x0.2.2.2.2.2.2.2.1 x0.2.2.2.2.2.2.2.2.1 x0.2.2.2.2.2.2.2.2.2.1 x0.2.2.2.2.2.2.2.2.2.2.1 x0.2.2.2.2.2.2.2.2.2.2.2.1 x0.2.2.2.2.2.2.2.2.2.2.2.2.1 x0.2.2.2.2.2.2.2.2.2.2.2.2.2.1 x0.2.2.2.2.2.2.2.2.2.2.2.2.2.2.1 x0.2.2.2.2.2.2.2.2.2.2.2.2.2.2.2.1 x0.2.2.2.2.2.2.2.2.2.2.2.2.2.2.2.2.1 x0.2.2.2.2.2.2.2.2.2.2.2.2.2.2.2.2.2.1 x0.2.2.2.2.2.2.2.2.2.2.2.2.2.2.2.2.2.2.1 x0.2.2.2.2.2.2.2.2.2.2.2.2.2.2.2.2.2.2.2.1 x0.2.2.2.2.2.2.2.2.2.2.2.2.2.2.2.2.2.2.2.2.1 x0.2.2.2.2.2.2.2.2.2.2.2.2.2.2.2.2.2.2.2.2.2.1 x0.2.2.2.2.2.2.2.2.2.2.2.2.2.2.2.2.2.2.2.2.2.2) := by kernel_rfl
theorem cMay.s1  (m : Nat) (x0 : List (El TNum)) (x1 : Int) (x2 : Int) (x3 : Int) (x4 : Int) (x5 : Int) (x6 : Int) (x7 : Int) (x8 : Int) (x9 : Int) (x10 : Int) (x11 : Int) (x12 : Int) (x13 : Int) (x14 : Int) (x15 : Int) (x16 : Int) (x17 : Int) (x18 : Bool) (x19 : Int) (x20 : Int) (x21 : Int) (x22 : Int) (x23 : Int) (x24 : ByteArray) (x25 : Bool) : cMay.l1  (m + 1) x0 x1 x2 x3 x4 x5 x6 x7 x8 x9 x10 x11 x12 x13 x14 x15 x16 x17 x18 x19 x20 x21 x22 x23 x24 x25 =
  cond (decide (x2 < x1)) (
   test (decide ((0 : Int) ≤ x2)) (
    test (decide (x2 < ((List.length x0) : Int))) (
     cond (decide ((((rdEl TNum x0 (Int.toNat x2))).2).1 < ((((rdEl TNum x0 (Int.toNat x2))).2).2).1)) (
      some ((.c (.v (.bool false))), [])) (
      cond (decide ((((rdEl TNum x0 (Int.toNat x2))).2).1 > ((((rdEl TNum x0 (Int.toNat x2))).2).2).2)) (
       some ((.c (.v (.bool false))), [])) (
       cMay.l1  m x0 x1 (IntKind.i64.wrap (x2 + (1 : Int))) x3 x4 x5 x6 x7 x8 x9 x10 x11 x12 x13 x14 x15 x16 x17 x18 x19 x20 x21 x22 x23 x24 x25))))) (
   cond (decide (x23 ≥ (1 : Int))) (
    cond (decide (x23 ≤ (3 : Int))) (
     cond ((ByteArray.toList x24) == (ByteArray.toList (⟨#[]⟩ : ByteArray))) (
      some ((.c (.v (.bool true))), [])) (
      test (word.pre (x24, Unit.unit)) (
       some ((.c (.v (.bool (wordB x24)))), [])))) (
     some ((.c (.v (.bool false))), []))) (
    some ((.c (.v (.bool false))), []))) := by kernel_rfl
theorem cMay.run_eq  (m : Nat) (x0 : (El TConfig)) : run (cMay.cfg ) Try.f13.ntmps Try.f13.results.toList m [.code (bodyOf Try.f13)] (enter (ivA cMay.ps (x0, ()))) = cMay.go  m x0 := by kernel_rfl
theorem cMay.ret  (hs : SpecsOK Try.prog (cMay.specs )) (ho : OSpecsOK Try.prog (cMay.ospecs )) (x0 : (El TConfig)) {m : Nat} {r : IV} (h : cMay.go  m x0 = some (r, [])) : VE.Returns Try.prog 13 (ivA cMay.ps (x0, ())) r :=
  returns_of_run (cfg := cMay.cfg ) (cfgOK_of mixed tab_ok hs ho) rfl Try.func13 (body_some (by kernel_rfl)) (Nat.le_of_ble_eq_true (by kernel_rfl)) ((cMay.run_eq  m x0).trans h)
abbrev cMay.Law : Prop := ∀ (x0 : (El TConfig)), cMay.pre (x0, ()) = true → VE.Returns Try.prog 13 (ivA cMay.ps (x0, ())) (cMay.res (x0, ()))
theorem cMay.mkR (H : ∀ (x0 : (El TConfig)), cMay.pre (x0, ()) = true → VE.Returns Try.prog 13 (ivA cMay.ps (x0, ())) (cMay.res (x0, ()))) : SpecOK Try.prog 13 cMay.sp :=
  specOf_ret Try.func13 (by kernel_rfl) (by kernel_rfl) fun (x : (El TConfig) × Unit) hx => H (x.1) hx
theorem cMay.mk  (hs : SpecsOK Try.prog (cMay.specs )) (ho : OSpecsOK Try.prog (cMay.ospecs )) (H : ∀ (x0 : (El TConfig)), cMay.pre (x0, ()) = true → ∃ m, cMay.go  m x0 = some (cMay.res (x0, ()), [])) : SpecOK Try.prog 13 cMay.sp :=
  cMay.mkR fun x0 hx => (H x0 hx).elim fun _ hm => cMay.ret  hs ho x0 hm

/-! ### triage/config.Default -/
abbrev cDef.ps : List AK := []
def cDef.pre : ElA cDef.ps → Bool := fun (x : Unit) => true
def cDef.res : ElA cDef.ps → IV := fun (x : Unit) => (mkIV true (enc TConfig defC)) 
def cDef.sp : ISpec := spOf cDef.ps cDef.pre cDef.res
abbrev cDef.OK : Prop := SpecOK Try.prog 14 cDef.sp
noncomputable def cDef.body : Code := bodyOf Try.f14
noncomputable def cDef.rs : List ResultVar := Try.f14.results.toList
def cDef.live : List (Nat × Live) := []
noncomputable def cDef.specs  : List (Nat × (List Bool × ISpec)) := []
noncomputable def cDef.ospecs  : List (Nat × OS) := []
noncomputable def cDef.cfg  : Cfg := ⟨lkp tab, lkp (cDef.specs ), lkp cDef.live, ⟨lkp (cDef.ospecs ), [], none⟩⟩
noncomputable def cDef.go  (m : Nat)  : R := run (cDef.cfg ) 2 cDef.rs m [.code cDef.body] (enter (ivA cDef.ps ()))
theorem cDef.start  (m : Nat)  : cDef.go  (m + 1)  =
  some ((.agg [(.v (.int .i64 (100 : Int))), (.v (.int .i64 (20 : Int))), (.v (.int .i64 (0 : Int))), (.v (.int .i64 (2 : Int))), (.v (.int .i64 (3 : Int))), (.v (.int .i64 (50 : Int))), (.v (.int .i64 (140 : Int))), (.v (.int .i64 (5 : Int))), (.v (.int .i64 (1000 : Int))), (.v (.int .i64 (5 : Int))), (.v (.int .i64 (100 : Int))), (.v (.int .i64 (1900 : Int))), (.v (.int .i64 (0 : Int))), (.v (.int .i64 (3000 : Int))), (.v (.int .i64 (10 : Int))), (.v (.bool true)), (.v (.int .i64 (0 : Int))), (.v (.int .i64 (5000 : Int))), (.v (.int .i64 (1000 : Int))), (.v (.int .i64 (10000 : Int))), (.v (.int .i64 (1 : Int))), (.v (.string (⟨#[]⟩ : ByteArray))), (.v (.bool false))]), []) := by kernel_rfl
theorem cDef.run_eq  (m : Nat)  : run (cDef.cfg ) Try.f14.ntmps Try.f14.results.toList m [.code (bodyOf Try.f14)] (enter (ivA cDef.ps ())) = cDef.go  m  := by kernel_rfl
theorem cDef.ret  (hs : SpecsOK Try.prog (cDef.specs ))   {m : Nat} {r : IV} (h : cDef.go  m  = some (r, [])) : VE.Returns Try.prog 14 (ivA cDef.ps ()) r :=
  returns_of_run (cfg := cDef.cfg ) (cfgOK_of mixed tab_ok hs .nil) rfl Try.func14 (body_some (by kernel_rfl)) (Nat.le_of_ble_eq_true (by kernel_rfl)) ((cDef.run_eq  m ).trans h)
abbrev cDef.Law : Prop := ∀ (_ : Unit), cDef.pre () = true → VE.Returns Try.prog 14 (ivA cDef.ps ()) (cDef.res ())
theorem cDef.mkR (H : ∀ (_ : Unit), cDef.pre () = true → VE.Returns Try.prog 14 (ivA cDef.ps ()) (cDef.res ())) : SpecOK Try.prog 14 cDef.sp :=
  specOf_ret Try.func14 (by kernel_rfl) (by kernel_rfl) fun (x : Unit) hx => H () hx
theorem cDef.mk  (hs : SpecsOK Try.prog (cDef.specs ))  (H : ∀ (_ : Unit), cDef.pre () = true → ∃ m, cDef.go  m  = some (cDef.res (), [])) : SpecOK Try.prog 14 cDef.sp :=
  cDef.mkR fun _ hx => (H () hx).elim fun _ hm => cDef.ret  hs   hm

/-! ### triage/triageref1.bit -/
abbrev bit.ps : List AK := [.d false .bool]
def bit.pre : ElA bit.ps → Bool := fun (x : Bool × Unit) => fits .bool (x.1) && (true)
def bit.res : ElA bit.ps → IV := fun (x : Bool × Unit) => (fun b => vi .i64 (bitI b)) x.1
def bit.sp : ISpec := spOf bit.ps bit.pre bit.res
abbrev bit.OK : Prop := SpecOK Try.prog 22 bit.sp
noncomputable def bit.body : Code := bodyOf Try.f22
noncomputable def bit.rs : List ResultVar := Try.f22.results.toList
def bit.live : List (Nat × Live) := []
noncomputable def bit.specs  : List (Nat × (List Bool × ISpec)) := []
noncomputable def bit.ospecs  : List (Nat × OS) := []
noncomputable def bit.cfg  : Cfg := ⟨lkp tab, lkp (bit.specs ), lkp bit.live, ⟨lkp (bit.ospecs ), [], none⟩⟩
noncomputable def bit.go  (m : Nat) (x0 : Bool) : R := run (bit.cfg ) 4 bit.rs m [.code bit.body] (enter (ivA bit.ps (x0, ())))
theorem bit.start  (m : Nat) (x0 : Bool) : bit.go  (m + 1) x0 =
  cond x0 (
   some ((.c (.v (.int .i64 (1 : Int)))), [])) (
   some ((.c (.v (.int .i64 (0 : Int)))), [])) := by kernel_rfl
theorem bit.run_eq  (m : Nat) (x0 : Bool) : run (bit.cfg ) Try.f22.ntmps Try.f22.results.toList m [.code (bodyOf Try.f22)] (enter (ivA bit.ps (x0, ()))) = bit.go  m x0 := by kernel_rfl
theorem bit.ret  (hs : SpecsOK Try.prog (bit.specs ))  (x0 : Bool) {m : Nat} {r : IV} (h : bit.go  m x0 = some (r, [])) : VE.Returns Try.prog 22 (ivA bit.ps (x0, ())) r :=
  returns_of_run (cfg := bit.cfg ) (cfgOK_of mixed tab_ok hs .nil) rfl Try.func22 (body_some (by kernel_rfl)) (Nat.le_of_ble_eq_true (by kernel_rfl)) ((bit.run_eq  m x0).trans h)
abbrev bit.Law : Prop := ∀ (x0 : Bool), bit.pre (x0, ()) = true → VE.Returns Try.prog 22 (ivA bit.ps (x0, ())) (bit.res (x0, ()))
theorem bit.mkR (H : ∀ (x0 : Bool), bit.pre (x0, ()) = true → VE.Returns Try.prog 22 (ivA bit.ps (x0, ())) (bit.res (x0, ()))) : SpecOK Try.prog 22 bit.sp :=
  specOf_ret Try.func22 (by kernel_rfl) (by kernel_rfl) fun (x : Bool × Unit) hx => H (x.1) hx
theorem bit.mk  (hs : SpecsOK Try.prog (bit.specs ))  (H : ∀ (x0 : Bool), bit.pre (x0, ()) = true → ∃ m, bit.go  m x0 = some (bit.res (x0, ()), [])) : SpecOK Try.prog 22 bit.sp :=
  bit.mkR fun x0 hx => (H x0 hx).elim fun _ hm => bit.ret  hs  x0 hm

/-! ### triage/triageref1.nums -/
abbrev numsR.ps : List AK := [.d true TConfig]
def numsR.pre : ElA numsR.ps → Bool := fun (x : (El TConfig) × Unit) => fits TConfig (x.1) && (true)
def numsR.res : ElA numsR.ps → IV := fun (x : (El TConfig) × Unit) => (fun c => .c (.sl (.int .i64) (numsL c))) x.1
def numsR.sp : ISpec := spOf numsR.ps numsR.pre numsR.res
abbrev numsR.OK : Prop := SpecOK Try.prog 16 numsR.sp
noncomputable def numsR.body : Code := bodyOf Try.f16
noncomputable def numsR.rs : List ResultVar := Try.f16.results.toList
def numsR.live : List (Nat × Live) := []
noncomputable def numsR.specs  : List (Nat × (List Bool × ISpec)) := [(22, ([], bit.sp))]
noncomputable def numsR.ospecs  : List (Nat × OS) := []
noncomputable def numsR.cfg  : Cfg := ⟨lkp tab, lkp (numsR.specs ), lkp numsR.live, ⟨lkp (numsR.ospecs ), [], none⟩⟩
noncomputable def numsR.go  (m : Nat) (x0 : (El TConfig)) : R := run (numsR.cfg ) 50 numsR.rs m [.code numsR.body] (enter (ivA numsR.ps (x0, ())))
theorem numsR.start  (m : Nat) (x0 : (El TConfig)) : numsR.go  (m + 1) x0 =
  some ((.c (.sl (.int .i64) (x0.1 :: (x0.2.1 :: (x0.2.2.1 :: (x0.2.2.2.1 :: (x0.2.2.2.2.1 :: (x0.2.2.2.2.2.1 :: (x0.2.2.2.2.2.2.1 :: (x0.2.2.2.2.2.2.2.1 :: (x0.2.2.2.2.2.2.2.2.1 :: (x0.2.2.2.2.2.2.2.2.2.1 :: (x0.2.2.2.2.2.2.2.2.2.2.1 :: (x0.2.2.2.2.2.2.2.2.2.2.2.1 :: (x0.2.2.2.2.2.2.2.2.2.2.2.2.1 :: (x0.2.2.2.2.2.2.2.2.2.2.2.2.2.1 :: (x0.2.2.2.2.2.2.2.2.2.2.2.2.2.2.1 :: ((bitI x0.2.2.2.2.2.2.2.2.2.2.2.2.2.2.2.1) :: (x0.2.2.2.2.2.2.2.2.2.2.2.2.2.2.2.2.1 :: (x0.2.2.2.2.2.2.2.2.2.2.2.2.2.2.2.2.2.1 :: (x0.2.2.2.2.2.2.2.2.2.2.2.2.2.2.2.2.2.2.1 :: (x0.2.2.2.2.2.2.2.2.2.2.2.2.2.2.2.2.2.2.2.1 :: (x0.2.2.2.2.2.2.2.2.2.2.2.2.2.2.2.2.2.2.2.2.1 :: ((0 : Int) :: ((bitI x0.2.2.2.2.2.2.2.2.2.2.2.2.2.2.2.2.2.2.2.2.2.2) :: ([] : List Int)))))))))))))))))))))))))), []) := by kernel_rfl
theorem numsR.run_eq  (m : Nat) (x0 : (El TConfig)) : run (numsR.cfg ) Try.f16.ntmps Try.f16.results.toList m [.code (bodyOf Try.f16)] (enter (ivA numsR.ps (x0, ()))) = numsR.go  m x0 := by kernel_rfl
theorem numsR.ret  (hs : SpecsOK Try.prog (numsR.specs ))  (x0 : (El TConfig)) {m : Nat} {r : IV} (h : numsR.go  m x0 = some (r, [])) : VE.Returns Try.prog 16 (ivA numsR.ps (x0, ())) r :=
  returns_of_run (cfg := numsR.cfg ) (cfgOK_of mixed tab_ok hs .nil) rfl Try.func16 (body_some (by kernel_rfl)) (Nat.le_of_ble_eq_true (by kernel_rfl)) ((numsR.run_eq  m x0).trans h)
abbrev numsR.Law : Prop := ∀ (x0 : (El TConfig)), numsR.pre (x0, ()) = true → VE.Returns Try.prog 16 (ivA numsR.ps (x0, ())) (numsR.res (x0, ()))
theorem numsR.mkR (H : ∀ (x0 : (El TConfig)), numsR.pre (x0, ()) = true → VE.Returns Try.prog 16 (ivA numsR.ps (x0, ())) (numsR.res (x0, ()))) : SpecOK Try.prog 16 numsR.sp :=
  specOf_ret Try.func16 (by kernel_rfl) (by kernel_rfl) fun (x : (El TConfig) × Unit) hx => H (x.1) hx
theorem numsR.mk  (hs : SpecsOK Try.prog (numsR.specs ))  (H : ∀ (x0 : (El TConfig)), numsR.pre (x0, ()) = true → ∃ m, numsR.go  m x0 = some (numsR.res (x0, ()), [])) : SpecOK Try.prog 16 numsR.sp :=
  numsR.mkR fun x0 hx => (H x0 hx).elim fun _ hm => numsR.ret  hs  x0 hm

/-! ### triage/triageref1.rows -/
abbrev rowsR.ps : List AK := []
def rowsR.pre : ElA rowsR.ps → Bool := fun (x : Unit) => true
def rowsR.res : ElA rowsR.ps → IV := fun (x : Unit) => (.c (.sl TRow rowsL)) 
def rowsR.sp : ISpec := spOf rowsR.ps rowsR.pre rowsR.res
abbrev rowsR.OK : Prop := SpecOK Try.prog 17 rowsR.sp
noncomputable def rowsR.body : Code := bodyOf Try.f17
noncomputable def rowsR.rs : List ResultVar := Try.f17.results.toList
def rowsR.live : List (Nat × Live) := []
noncomputable def rowsR.specs  : List (Nat × (List Bool × ISpec)) := []
noncomputable def rowsR.ospecs  : List (Nat × OS) := []
noncomputable def rowsR.cfg  : Cfg := ⟨lkp tab, lkp (rowsR.specs ), lkp rowsR.live, ⟨lkp (rowsR.ospecs ), [], none⟩⟩
noncomputable def rowsR.go  (m : Nat)  : R := run (rowsR.cfg ) 25 rowsR.rs m [.code rowsR.body] (enter (ivA rowsR.ps ()))
theorem rowsR.start  (m : Nat)  : rowsR.go  (m + 1)  =
  some ((.c (.sl TRow (((⟨#[105, 110, 116, 101, 114, 118, 97, 108]⟩ : ByteArray), ((10 : Int), ((10000 : Int), (100 : Int)))) :: (((⟨#[116, 105, 109, 101, 111, 117, 116]⟩ : ByteArray), ((1 : Int), ((10000 : Int), (20 : Int)))) :: (((⟨#[106, 105, 116, 116, 101, 114]⟩ : ByteArray), ((0 : Int), ((1000 : Int), (0 : Int)))) :: (((⟨#[114, 105, 115, 101]⟩ : ByteArray), ((1 : Int), ((10 : Int), (2 : Int)))) :: (((⟨#[102, 97, 108, 108]⟩ : ByteArray), ((1 : Int), ((10 : Int), (3 : Int)))) :: (((⟨#[112, 97, 110, 105, 99]⟩ : ByteArray), ((0 : Int), ((100 : Int), (50 : Int)))) :: (((⟨#[111, 118, 101, 114]⟩ : ByteArray), ((100 : Int), ((1000 : Int), (140 : Int)))) :: (((⟨#[101, 114, 114, 111, 114, 115]⟩ : ByteArray), ((0 : Int), ((100 : Int), (5 : Int)))) :: (((⟨#[115, 119, 101, 101, 112]⟩ : ByteArray), ((10 : Int), ((10000 : Int), (1000 : Int)))) :: (((⟨#[104, 111, 115, 116, 115]⟩ : ByteArray), ((1 : Int), ((64 : Int), (5 : Int)))) :: (((⟨#[114, 101, 113, 117, 101, 115, 116, 115]⟩ : ByteArray), ((1 : Int), ((1000 : Int), (100 : Int)))) :: (((⟨#[102, 97, 99, 116, 111, 114]⟩ : ByteArray), ((0 : Int), ((10000 : Int), (1900 : Int)))) :: (((⟨#[102, 97, 105, 108, 115]⟩ : ByteArray), ((0 : Int), ((100 : Int), (0 : Int)))) :: (((⟨#[98, 97, 115, 101]⟩ : ByteArray), ((1 : Int), ((10000 : Int), (3000 : Int)))) :: (((⟨#[101, 106, 101, 99, 116]⟩ : ByteArray), ((0 : Int), ((100 : Int), (10 : Int)))) :: (((⟨#[111, 110, 101]⟩ : ByteArray), ((0 : Int), ((1 : Int), (1 : Int)))) :: (((⟨#[115, 108, 111, 119]⟩ : ByteArray), ((0 : Int), ((10000 : Int), (0 : Int)))) :: (((⟨#[100, 114, 97, 105, 110]⟩ : ByteArray), ((1 : Int), ((10000 : Int), (5000 : Int)))) :: (((⟨#[104, 111, 115, 116, 108, 105, 109, 105, 116]⟩ : ByteArray), ((1 : Int), ((1000 : Int), (1000 : Int)))) :: (((⟨#[112, 111, 111, 108, 108, 105, 109, 105, 116]⟩ : ByteArray), ((1 : Int), ((10000 : Int), (10000 : Int)))) :: (((⟨#[112, 111, 108, 105, 99, 121]⟩ : ByteArray), ((1 : Int), ((3 : Int), (1 : Int)))) :: (((⟨#[122, 111, 110, 101]⟩ : ByteArray), ((0 : Int), ((0 : Int), (0 : Int)))) :: (((⟨#[102, 97, 108, 108, 98, 97, 99, 107]⟩ : ByteArray), ((0 : Int), ((1 : Int), (0 : Int)))) :: ([] : List (El TNum))))))))))))))))))))))))))), []) := by kernel_rfl
theorem rowsR.run_eq  (m : Nat)  : run (rowsR.cfg ) Try.f17.ntmps Try.f17.results.toList m [.code (bodyOf Try.f17)] (enter (ivA rowsR.ps ())) = rowsR.go  m  := by kernel_rfl
theorem rowsR.ret  (hs : SpecsOK Try.prog (rowsR.specs ))   {m : Nat} {r : IV} (h : rowsR.go  m  = some (r, [])) : VE.Returns Try.prog 17 (ivA rowsR.ps ()) r :=
  returns_of_run (cfg := rowsR.cfg ) (cfgOK_of mixed tab_ok hs .nil) rfl Try.func17 (body_some (by kernel_rfl)) (Nat.le_of_ble_eq_true (by kernel_rfl)) ((rowsR.run_eq  m ).trans h)
abbrev rowsR.Law : Prop := ∀ (_ : Unit), rowsR.pre () = true → VE.Returns Try.prog 17 (ivA rowsR.ps ()) (rowsR.res ())
theorem rowsR.mkR (H : ∀ (_ : Unit), rowsR.pre () = true → VE.Returns Try.prog 17 (ivA rowsR.ps ()) (rowsR.res ())) : SpecOK Try.prog 17 rowsR.sp :=
  specOf_ret Try.func17 (by kernel_rfl) (by kernel_rfl) fun (x : Unit) hx => H () hx
theorem rowsR.mk  (hs : SpecsOK Try.prog (rowsR.specs ))  (H : ∀ (_ : Unit), rowsR.pre () = true → ∃ m, rowsR.go  m  = some (rowsR.res (), [])) : SpecOK Try.prog 17 rowsR.sp :=
  rowsR.mkR fun _ hx => (H () hx).elim fun _ hm => rowsR.ret  hs   hm

/-! ### triage/triageref1.made -/
abbrev madeR.ps : List AK := [.d false (.sl (.int .i64)), .d false .str]
def madeR.pre : ElA madeR.ps → Bool := fun (x : (List Int) × ByteArray × Unit) => fits (.sl (.int .i64)) (x.1) && (fits .str (x.2.1) && ((fun n _ => decide (List.length n = 23)) x.1 x.2.1 && (true)))
def madeR.res : ElA madeR.ps → IV := fun (x : (List Int) × ByteArray × Unit) => (fun n z => mkIV true (enc TConfig (madeC n z))) x.1 x.2.1
def madeR.sp : ISpec := spOf madeR.ps madeR.pre madeR.res
abbrev madeR.OK : Prop := SpecOK Try.prog 19 madeR.sp
noncomputable def madeR.body : Code := bodyOf Try.f19
noncomputable def madeR.rs : List ResultVar := Try.f19.results.toList
def madeR.live : List (Nat × Live) := []
noncomputable def madeR.specs  : List (Nat × (List Bool × ISpec)) := []
noncomputable def madeR.ospecs  : List (Nat × OS) := []
noncomputable def madeR.cfg  : Cfg := ⟨lkp tab, lkp (madeR.specs ), lkp madeR.live, ⟨lkp (madeR.ospecs ), [], none⟩⟩
noncomputable def madeR.go  (m : Nat) (x0 : (List Int)) (x1 : ByteArray) : R := run (madeR.cfg ) 75 madeR.rs m [.code madeR.body] (enter (ivA madeR.ps (x0, x1, ())))
theorem madeR.start  (m : Nat) (x0 : (List Int)) (x1 : ByteArray) : madeR.go  (m + 1) x0 x1 =
  test (decide ((0 : Int) < ((List.length x0) : Int))) (
   test (decide ((1 : Int) < ((List.length x0) : Int))) (
    test (decide ((2 : Int) < ((List.length x0) : Int))) (
     test (decide ((3 : Int) < ((List.length x0) : Int))) (
      test (decide ((4 : Int) < ((List.length x0) : Int))) (
       test (decide ((5 : Int) < ((List.length x0) : Int))) (
        test (decide ((6 : Int) < ((List.length x0) : Int))) (
         test (decide ((7 : Int) < ((List.length x0) : Int))) (
          test (decide ((8 : Int) < ((List.length x0) : Int))) (
           test (decide ((9 : Int) < ((List.length x0) : Int))) (
            test (decide ((10 : Int) < ((List.length x0) : Int))) (
             test (decide ((11 : Int) < ((List.length x0) : Int))) (
              test (decide ((12 : Int) < ((List.length x0) : Int))) (
               test (decide ((13 : Int) < ((List.length x0) : Int))) (
                test (decide ((14 : Int) < ((List.length x0) : Int))) (
                 test (decide ((15 : Int) < ((List.length x0) : Int))) (
                  test (decide ((16 : Int) < ((List.length x0) : Int))) (
                   test (decide ((17 : Int) < ((List.length x0) : Int))) (
                    test (decide ((18 : Int) < ((List.length x0) : Int))) (
                     test (decide ((19 : Int) < ((List.length x0) : Int))) (
                      test (decide ((20 : Int) < ((List.length x0) : Int))) (
                       test (decide ((22 : Int) < ((List.length x0) : Int))) (
                        some ((.agg [(.v (.int .i64 (rdEl (.int .i64) x0 (Int.toNat (0 : Int))))), (.v (.int .i64 (rdEl (.int .i64) x0 (Int.toNat (1 : Int))))), (.v (.int .i64 (rdEl (.int .i64) x0 (Int.toNat (2 : Int))))), (.v (.int .i64 (rdEl (.int .i64) x0 (Int.toNat (3 : Int))))), (.v (.int .i64 (rdEl (.int .i64) x0 (Int.toNat (4 : Int))))), (.v (.int .i64 (rdEl (.int .i64) x0 (Int.toNat (5 : Int))))), (.v (.int .i64 (rdEl (.int .i64) x0 (Int.toNat (6 : Int))))), (.v (.int .i64 (rdEl (.int .i64) x0 (Int.toNat (7 : Int))))), (.v (.int .i64 (rdEl (.int .i64) x0 (Int.toNat (8 : Int))))), (.v (.int .i64 (rdEl (.int .i64) x0 (Int.toNat (9 : Int))))), (.v (.int .i64 (rdEl (.int .i64) x0 (Int.toNat (10 : Int))))), (.v (.int .i64 (rdEl (.int .i64) x0 (Int.toNat (11 : Int))))), (.v (.int .i64 (rdEl (.int .i64) x0 (Int.toNat (12 : Int))))), (.v (.int .i64 (rdEl (.int .i64) x0 (Int.toNat (13 : Int))))), (.v (.int .i64 (rdEl (.int .i64) x0 (Int.toNat (14 : Int))))), (.v (.bool ((rdEl (.int .i64) x0 (Int.toNat (15 : Int))) == (1 : Int)))), (.v (.int .i64 (rdEl (.int .i64) x0 (Int.toNat (16 : Int))))), (.v (.int .i64 (rdEl (.int .i64) x0 (Int.toNat (17 : Int))))), (.v (.int .i64 (rdEl (.int .i64) x0 (Int.toNat (18 : Int))))), (.v (.int .i64 (rdEl (.int .i64) x0 (Int.toNat (19 : Int))))), (.v (.int .i64 (rdEl (.int .i64) x0 (Int.toNat (20 : Int))))), (.v (.string x1)), (.v (.bool ((rdEl (.int .i64) x0 (Int.toNat (22 : Int))) == (1 : Int))))]), []))))))))))))))))))))))) := by kernel_rfl
theorem madeR.run_eq  (m : Nat) (x0 : (List Int)) (x1 : ByteArray) : run (madeR.cfg ) Try.f19.ntmps Try.f19.results.toList m [.code (bodyOf Try.f19)] (enter (ivA madeR.ps (x0, x1, ()))) = madeR.go  m x0 x1 := by kernel_rfl
theorem madeR.ret  (hs : SpecsOK Try.prog (madeR.specs ))  (x0 : (List Int)) (x1 : ByteArray) {m : Nat} {r : IV} (h : madeR.go  m x0 x1 = some (r, [])) : VE.Returns Try.prog 19 (ivA madeR.ps (x0, x1, ())) r :=
  returns_of_run (cfg := madeR.cfg ) (cfgOK_of mixed tab_ok hs .nil) rfl Try.func19 (body_some (by kernel_rfl)) (Nat.le_of_ble_eq_true (by kernel_rfl)) ((madeR.run_eq  m x0 x1).trans h)
abbrev madeR.Law : Prop := ∀ (x0 : (List Int)) (x1 : ByteArray), madeR.pre (x0, x1, ()) = true → VE.Returns Try.prog 19 (ivA madeR.ps (x0, x1, ())) (madeR.res (x0, x1, ()))
theorem madeR.mkR (H : ∀ (x0 : (List Int)) (x1 : ByteArray), madeR.pre (x0, x1, ()) = true → VE.Returns Try.prog 19 (ivA madeR.ps (x0, x1, ())) (madeR.res (x0, x1, ()))) : SpecOK Try.prog 19 madeR.sp :=
  specOf_ret Try.func19 (by kernel_rfl) (by kernel_rfl) fun (x : (List Int) × ByteArray × Unit) hx => H (x.1) (x.2.1) hx
theorem madeR.mk  (hs : SpecsOK Try.prog (madeR.specs ))  (H : ∀ (x0 : (List Int)) (x1 : ByteArray), madeR.pre (x0, x1, ()) = true → ∃ m, madeR.go  m x0 x1 = some (madeR.res (x0, x1, ()), [])) : SpecOK Try.prog 19 madeR.sp :=
  madeR.mkR fun x0 x1 hx => (H x0 x1 hx).elim fun _ hm => madeR.ret  hs  x0 x1 hm

/-! ### triage/triageref1.Default -/
abbrev defR.ps : List AK := []
def defR.pre : ElA defR.ps → Bool := fun (x : Unit) => true
def defR.res : ElA defR.ps → IV := fun (x : Unit) => (mkIV true (enc TConfig defC)) 
def defR.sp : ISpec := spOf defR.ps defR.pre defR.res
abbrev defR.OK : Prop := SpecOK Try.prog 12 defR.sp
noncomputable def defR.body : Code := bodyOf Try.f12
noncomputable def defR.rs : List ResultVar := Try.f12.results.toList
def defR.live : List (Nat × Live) := [(3, ⟨[(0, .plain), (1, .arr 3 (.int .i64)), (4, .sl TRow), (5, .plain), (6, .plain)], [(1, [])]⟩)]
noncomputable def defR.specs  : List (Nat × (List Bool × ISpec)) := [(17, ([], rowsR.sp)), (19, ([], madeR.sp))]
noncomputable def defR.ospecs  : List (Nat × OS) := []
noncomputable def defR.cfg  : Cfg := ⟨lkp tab, lkp (defR.specs ), lkp defR.live, ⟨lkp (defR.ospecs ), [], none⟩⟩
noncomputable def defR.l1  (m : Nat) (x0 : List (El TNum)) (x1 : Int) (x2 : Int) (x3 : List Int) (x4 : Int) (x5 : Int) (x6 : Int) (x7 : Int) (x8 : Int) (x9 : Int) (x10 : Int) (x11 : Int) (x12 : Int) (x13 : Int) (x14 : Int) (x15 : Int) (x16 : Int) (x17 : Int) (x18 : Int) (x19 : Bool) (x20 : Int) (x21 : Int) (x22 : Int) (x23 : Int) (x24 : Int) (x25 : ByteArray) (x26 : Bool) : R := run (defR.cfg ) 18 defR.rs m ((todoR 3 defR.body []).getD []) ⟨ofList (.c .junk) [(0, (.c (.ref 1 0))), (1, (.c (.sref 254))), (4, (.c (.sl TRow x0))), (5, (.c (.v (.int .i64 x1)))), (6, (.c (.v (.int .i64 x2))))], ofList none [(254, some (.arr 3 (.int .i64) x3 false)), (1, some (.cells 23 [(.v (.int .i64 x4)), (.v (.int .i64 x5)), (.v (.int .i64 x6)), (.v (.int .i64 x7)), (.v (.int .i64 x8)), (.v (.int .i64 x9)), (.v (.int .i64 x10)), (.v (.int .i64 x11)), (.v (.int .i64 x12)), (.v (.int .i64 x13)), (.v (.int .i64 x14)), (.v (.int .i64 x15)), (.v (.int .i64 x16)), (.v (.int .i64 x17)), (.v (.int .i64 x18)), (.v (.bool x19)), (.v (.int .i64 x20)), (.v (.int .i64 x21)), (.v (.int .i64 x22)), (.v (.int .i64 x23)), (.v (.int .i64 x24)), (.v (.string x25)), (.v (.bool x26))]))], ofList false [(254, true), (1, true)]⟩
noncomputable def defR.go  (m : Nat)  : R := run (defR.cfg ) 18 defR.rs m [.code defR.body] (enter (ivA defR.ps ()))
theorem defR.start  (m : Nat)  : defR.go  (m + 1)  =
  defR.l1  m rowsL ((List.length rowsL) : Int) (0 : Int) ([] : List Int) (0 : Int) (0 : Int) (0 : Int) (0 : Int) (0 : Int) (0 : Int) (0 : Int) (0 : Int) (0 : Int) (0 : Int) (0 : Int) (0 : Int) (0 : Int) (0 : Int) (0 : Int) false (0 : Int) (0 : Int) (0 : Int) (0 : Int) (0 : Int) (⟨#[]⟩ : ByteArray) false := by kernel_rfl
theorem defR.s1  (m : Nat) (x0 : List (El TNum)) (x1 : Int) (x2 : Int) (x3 : List Int) (x4 : Int) (x5 : Int) (x6 : Int) (x7 : Int) (x8 : Int) (x9 : Int) (x10 : Int) (x11 : Int) (x12 : Int) (x13 : Int) (x14 : Int) (x15 : Int) (x16 : Int) (x17 : Int) (x18 : Int) (x19 : Bool) (x20 : Int) (x21 : Int) (x22 : Int) (x23 : Int) (x24 : Int) (x25 : ByteArray) (x26 : Bool) : defR.l1  (m + 1) x0 x1 x2 x3 x4 x5 x6 x7 x8 x9 x10 x11 x12 x13 x14 x15 x16 x17 x18 x19 x20 x21 x22 x23 x24 x25 x26 =
  cond (decide (x2 < x1)) (
   test (decide ((0 : Int) ≤ x2)) (
    test (decide (x2 < ((List.length x0) : Int))) (
     test (decide (((List.length x3) + (List.length (((((rdEl TRow x0 (Int.toNat x2))).2).2).2 :: ([] : List Int)))) ≤ (lim 8))) (
      defR.l1  m x0 x1 (IntKind.i64.wrap (x2 + (1 : Int))) (x3 ++ (((((rdEl TRow x0 (Int.toNat x2))).2).2).2 :: ([] : List Int))) x4 x5 x6 x7 x8 x9 x10 x11 x12 x13 x14 x15 x16 x17 x18 x19 x20 x21 x22 x23 x24 x25 x26)))) (
   test (madeR.pre (x3, ((⟨#[]⟩ : ByteArray), Unit.unit))) (
    some ((.agg [(.v (.int .i64 ((madeC x3 (⟨#[]⟩ : ByteArray))).1)), (.v (.int .i64 (((madeC x3 (⟨#[]⟩ : ByteArray))).2).1)), (.v (.int .i64 ((((madeC x3 (⟨#[]⟩ : ByteArray))).2).2).1)), (.v (.int .i64 (((((madeC x3 (⟨#[]⟩ : ByteArray))).2).2).2).1)), (.v (.int .i64 ((((((madeC x3 (⟨#[]⟩ : ByteArray))).2).2).2).2).1)), (.v (.int .i64 (((((((madeC x3 (⟨#[]⟩ : ByteArray))).2).2).2).2).2).1)), (.v (.int .i64 ((((((((madeC x3 (⟨#[]⟩ : ByteArray))).2).2).2).2).2).2).1)), (.v (.int .i64 (((((((((madeC x3 (⟨#[]⟩ : ByteArray))).2).2).2).2).2).2).2).1)), (.v (.int .i64 ((((((((((madeC x3 (⟨#[]⟩ : ByteArray))).2).2).2).2).2).2).2).2).1)), (.v (.int .i64 (((((((((((madeC x3 (⟨#[]⟩ : ByteArray))).2).2).2).2).2).2).2).2).2).1)), (.v (.int .i64 ((((((((((((madeC x3 (⟨#[]⟩ : ByteArray))).2).2).2).2).2).2).2).2).2).2).1)), (.v (.int .i64 (((((((((((((madeC x3 (⟨#[]⟩ : ByteArray))).2).2).2).2).2).2).2).2).2).2).2).1)), (.v (.int .i64 ((((((((((((((madeC x3 (⟨#[]⟩ : ByteArray))).2).2).2).2).2).2).2).2).2).2).2).2).1)), (.v (.int .i64 (((((((((((((((madeC x3 (⟨#[]⟩ : ByteArray))).2).2).2).2).2).2).2).2).2).2).2).2).2).1)), (.v (.int .i64 ((((((((((((((((madeC x3 (⟨#[]⟩ : ByteArray))).2).2).2).2).2).2).2).2).2).2).2).2).2).2).1)), (.v (.bool (((((((((((((((((madeC x3 (⟨#[]⟩ : ByteArray))).2).2).2).2).2).2).2).2).2).2).2).2).2).2).2).1)), (.v (.int .i64 ((((((((((((((((((madeC x3 (⟨#[]⟩ : ByteArray))).2).2).2).2).2).2).2).2).2).2).2).2).2).2).2).2).1)), (.v (.int .i64 (((((((((((((((((((madeC x3 (⟨#[]⟩ : ByteArray))).2).2).2).2).2).2).2).2).2).2).2).2).2).2).2).2).2).1)), (.v (.int .i64 ((((((((((((((((((((madeC x3 (⟨#[]⟩ : ByteArray))).2).2).2).2).2).2).2).2).2).2).2).2).2).2).2).2).2).2).1)), (.v (.int .i64 (((((((((((((((((((((madeC x3 (⟨#[]⟩ : ByteArray))).2).2).2).2).2).2).2).2).2).2).2).2).2).2).2).2).2).2).2).1)), (.v (.int .i64 ((((((((((((((((((((((madeC x3 (⟨#[]⟩ : ByteArray))).2).2).2).2).2).2).2).2).2).2).2).2).2).2).2).2).2).2).2).2).1)), (.v (.string (((((((((((((((((((((((madeC x3 (⟨#[]⟩ : ByteArray))).2).2).2).2).2).2).2).2).2).2).2).2).2).2).2).2).2).2).2).2).2).1)), (.v (.bool (((((((((((((((((((((((madeC x3 (⟨#[]⟩ : ByteArray))).2).2).2).2).2).2).2).2).2).2).2).2).2).2).2).2).2).2).2).2).2).2))]), []))) := by kernel_rfl
theorem defR.run_eq  (m : Nat)  : run (defR.cfg ) Try.f12.ntmps Try.f12.results.toList m [.code (bodyOf Try.f12)] (enter (ivA defR.ps ())) = defR.go  m  := by kernel_rfl
theorem defR.ret  (hs : SpecsOK Try.prog (defR.specs ))   {m : Nat} {r : IV} (h : defR.go  m  = some (r, [])) : VE.Returns Try.prog 12 (ivA defR.ps ()) r :=
  returns_of_run (cfg := defR.cfg ) (cfgOK_of mixed tab_ok hs .nil) rfl Try.func12 (body_some (by kernel_rfl)) (Nat.le_of_ble_eq_true (by kernel_rfl)) ((defR.run_eq  m ).trans h)
abbrev defR.Law : Prop := ∀ (_ : Unit), defR.pre () = true → VE.Returns Try.prog 12 (ivA defR.ps ()) (defR.res ())
theorem defR.mkR (H : ∀ (_ : Unit), defR.pre () = true → VE.Returns Try.prog 12 (ivA defR.ps ()) (defR.res ())) : SpecOK Try.prog 12 defR.sp :=
  specOf_ret Try.func12 (by kernel_rfl) (by kernel_rfl) fun (x : Unit) hx => H () hx
theorem defR.mk  (hs : SpecsOK Try.prog (defR.specs ))  (H : ∀ (_ : Unit), defR.pre () = true → ∃ m, defR.go  m  = some (defR.res (), [])) : SpecOK Try.prog 12 defR.sp :=
  defR.mkR fun _ hx => (H () hx).elim fun _ hm => defR.ret  hs   hm

/-! ### triage/triageref1.MayConfig -/
abbrev mayCR.ps : List AK := [.d true TConfig]
def mayCR.pre : ElA mayCR.ps → Bool := fun (x : (El TConfig) × Unit) => fits TConfig (x.1) && (true)
def mayCR.res : ElA mayCR.ps → IV := fun (x : (El TConfig) × Unit) => (fun c => vb (mayC c)) x.1
def mayCR.sp : ISpec := spOf mayCR.ps mayCR.pre mayCR.res
abbrev mayCR.OK : Prop := SpecOK Try.prog 10 mayCR.sp
noncomputable def mayCR.body : Code := bodyOf Try.f10
noncomputable def mayCR.rs : List ResultVar := Try.f10.results.toList
def mayCR.live : List (Nat × Live) := [(3, ⟨[(1, .plain), (3, .sl (.int .i64)), (8, .sl TRow), (9, .plain), (10, .plain)], [(1, [])]⟩)]
noncomputable def mayCR.specs  : List (Nat × (List Bool × ISpec)) := [(16, ([], numsR.sp)), (17, ([], rowsR.sp)), (18, ([], wordR.sp))]
noncomputable def mayCR.ospecs  : List (Nat × OS) := []
noncomputable def mayCR.cfg  : Cfg := ⟨lkp tab, lkp (mayCR.specs ), lkp mayCR.live, ⟨lkp (mayCR.ospecs ), [], none⟩⟩
noncomputable def mayCR.l1  (m : Nat) (x0 : List Int) (x1 : List (El TNum)) (x2 : Int) (x3 : Int) (x4 : Int) (x5 : Int) (x6 : Int) (x7 : Int) (x8 : Int) (x9 : Int) (x10 : Int) (x11 : Int) (x12 : Int) (x13 : Int) (x14 : Int) (x15 : Int) (x16 : Int) (x17 : Int) (x18 : Int) (x19 : Bool) (x20 : Int) (x21 : Int) (x22 : Int) (x23 : Int) (x24 : Int) (x25 : ByteArray) (x26 : Bool) : R := run (mayCR.cfg ) 40 mayCR.rs m ((todoR 3 mayCR.body []).getD []) ⟨ofList (.c .junk) [(1, (.c (.ref 1 0))), (3, (.c (.sl (.int .i64) x0))), (8, (.c (.sl TRow x1))), (9, (.c (.v (.int .i64 x2)))), (10, (.c (.v (.int .i64 x3))))], ofList none [(1, some (.cells 23 [(.v (.int .i64 x4)), (.v (.int .i64 x5)), (.v (.int .i64 x6)), (.v (.int .i64 x7)), (.v (.int .i64 x8)), (.v (.int .i64 x9)), (.v (.int .i64 x10)), (.v (.int .i64 x11)), (.v (.int .i64 x12)), (.v (.int .i64 x13)), (.v (.int .i64 x14)), (.v (.int .i64 x15)), (.v (.int .i64 x16)), (.v (.int .i64 x17)), (.v (.int .i64 x18)), (.v (.bool x19)), (.v (.int .i64 x20)), (.v (.int .i64 x21)), (.v (.int .i64 x22)), (.v (.int .i64 x23)), (.v (.int .i64 x24)), (.v (.string x25)), (.v (.bool x26))]))], ofList false [(1, true)]⟩
noncomputable def mayCR.go  (m : Nat) (x0 : (El TConfig)) : R := run (mayCR.cfg ) 40 mayCR.rs m [.code mayCR.body] (enter (ivA mayCR.ps (x0, ())))
theorem mayCR.start  (m : Nat) (x0 : (El TConfig)) : mayCR.go  (m + 1) x0 =
  test (numsR.pre (x0, Unit.unit)) (
   mayCR.l1  m (numsL x0) rowsL ((List.length rowsL) : Int) (0 : Int) x0.1 x0.2.1 x0.2.2.1 x0.2.2.2.1 x0.2.2.2.2.1 x0.2.2.2.2.2.1 x0.2.2.2.2.2.2.1 x0.2.2.2.2.2.2.2.1 x0.2.2.2.2.2.2.2.2.1 x0.2.2.2.2.2.2.2.2.2.1 x0.2.2.2.2.2.2.2.2.2.2.1 x0.2.2.2.2.2.2.2.2.2.2.2.1 x0.2.2.2.2.2.2.2.2.2.2.2.2.1 x0.2.2.2.2.2.2.2.2.2.2.2.2.2.1 x0.2.2.2.2.2.2.2.2.2.2.2.2.2.2.1 x0.2.2.2.2.2.2.2.2.2.2.2.2.2.2.2.1 x0.2.2.2.2.2.2.2.2.2.2.2.2.2.2.2.2.1 x0.2.2.2.2.2.2.2.2.2.2.2.2.2.2.2.2.2.1 x0.2.2.2.2.2.2.2.2.2.2.2.2.2.2.2.2.2.2.1 x0.2.2.2.2.2.2.2.2.2.2.2.2.2.2.2.2.2.2.2.1 x0.2.2.2.2.2.2.2.2.2.2.2.2.2.2.2.2.2.2.2.2.1 x0.2.2.2.2.2.2.2.2.2.2.2.2.2.2.2.2.2.2.2.2.2.1 x0.2.2.2.2.2.2.2.2.2.2.2.2.2.2.2.2.2.2.2.2.2.2) := by kernel_rfl
theorem mayCR.s1  (m : Nat) (x0 : List Int) (x1 : List (El TNum)) (x2 : Int) (x3 : Int) (x4 : Int) (x5 : Int) (x6 : Int) (x7 : Int) (x8 : Int) (x9 : Int) (x10 : Int) (x11 : Int) (x12 : Int) (x13 : Int) (x14 : Int) (x15 : Int) (x16 : Int) (x17 : Int) (x18 : Int) (x19 : Bool) (x20 : Int) (x21 : Int) (x22 : Int) (x23 : Int) (x24 : Int) (x25 : ByteArray) (x26 : Bool) : mayCR.l1  (m + 1) x0 x1 x2 x3 x4 x5 x6 x7 x8 x9 x10 x11 x12 x13 x14 x15 x16 x17 x18 x19 x20 x21 x22 x23 x24 x25 x26 =
  cond (decide (x3 < x2)) (
   test (decide ((0 : Int) ≤ x3)) (
    test (decide (x3 < ((List.length x1) : Int))) (
     test (decide ((0 : Int) ≤ x3)) (
      test (decide (x3 < ((List.length x0) : Int))) (
       cond (decide ((rdEl (.int .i64) x0 (Int.toNat x3)) < (((rdEl TRow x1 (Int.toNat x3))).2).1)) (
        some ((.c (.v (.bool false))), [])) (
        test (decide ((0 : Int) ≤ x3)) (
         test (decide (x3 < ((List.length x0) : Int))) (
          cond (decide ((rdEl (.int .i64) x0 (Int.toNat x3)) > ((((rdEl TRow x1 (Int.toNat x3))).2).2).1)) (
           some ((.c (.v (.bool false))), [])) (
           mayCR.l1  m x0 x1 x2 (IntKind.i64.wrap (x3 + (1 : Int))) x4 x5 x6 x7 x8 x9 x10 x11 x12 x13 x14 x15 x16 x17 x18 x19 x20 x21 x22 x23 x24 x25 x26))))))))) (
   cond ((ByteArray.toList x25) == (ByteArray.toList (⟨#[]⟩ : ByteArray))) (
    some ((.c (.v (.bool true))), [])) (
    test (wordR.pre (x25, Unit.unit)) (
     some ((.c (.v (.bool (wordB x25)))), [])))) := by kernel_rfl
theorem mayCR.run_eq  (m : Nat) (x0 : (El TConfig)) : run (mayCR.cfg ) Try.f10.ntmps Try.f10.results.toList m [.code (bodyOf Try.f10)] (enter (ivA mayCR.ps (x0, ()))) = mayCR.go  m x0 := by kernel_rfl
theorem mayCR.ret  (hs : SpecsOK Try.prog (mayCR.specs ))  (x0 : (El TConfig)) {m : Nat} {r : IV} (h : mayCR.go  m x0 = some (r, [])) : VE.Returns Try.prog 10 (ivA mayCR.ps (x0, ())) r :=
  returns_of_run (cfg := mayCR.cfg ) (cfgOK_of mixed tab_ok hs .nil) rfl Try.func10 (body_some (by kernel_rfl)) (Nat.le_of_ble_eq_true (by kernel_rfl)) ((mayCR.run_eq  m x0).trans h)
abbrev mayCR.Law : Prop := ∀ (x0 : (El TConfig)), mayCR.pre (x0, ()) = true → VE.Returns Try.prog 10 (ivA mayCR.ps (x0, ())) (mayCR.res (x0, ()))
theorem mayCR.mkR (H : ∀ (x0 : (El TConfig)), mayCR.pre (x0, ()) = true → VE.Returns Try.prog 10 (ivA mayCR.ps (x0, ())) (mayCR.res (x0, ()))) : SpecOK Try.prog 10 mayCR.sp :=
  specOf_ret Try.func10 (by kernel_rfl) (by kernel_rfl) fun (x : (El TConfig) × Unit) hx => H (x.1) hx
theorem mayCR.mk  (hs : SpecsOK Try.prog (mayCR.specs ))  (H : ∀ (x0 : (El TConfig)), mayCR.pre (x0, ()) = true → ∃ m, mayCR.go  m x0 = some (mayCR.res (x0, ()), [])) : SpecOK Try.prog 10 mayCR.sp :=
  mayCR.mkR fun x0 hx => (H x0 hx).elim fun _ hm => mayCR.ret  hs  x0 hm

/-! ### triage/triageref1.Held -/
abbrev heldR.ps : List AK := [.d true TConfig]
def heldR.pre : ElA heldR.ps → Bool := fun (x : (El TConfig) × Unit) => fits TConfig (x.1) && (true)
def heldR.res : ElA heldR.ps → IV := fun (x : (El TConfig) × Unit) => (fun c => mkIV true (enc TConfig (heldC c))) x.1
def heldR.sp : ISpec := spOf heldR.ps heldR.pre heldR.res
abbrev heldR.OK : Prop := SpecOK Try.prog 11 heldR.sp
noncomputable def heldR.body : Code := bodyOf Try.f11
noncomputable def heldR.rs : List ResultVar := Try.f11.results.toList
def heldR.live : List (Nat × Live) := []
noncomputable def heldR.specs  : List (Nat × (List Bool × ISpec)) := [(10, ([], mayCR.sp)), (12, ([], defR.sp))]
noncomputable def heldR.ospecs  : List (Nat × OS) := []
noncomputable def heldR.cfg  : Cfg := ⟨lkp tab, lkp (heldR.specs ), lkp heldR.live, ⟨lkp (heldR.ospecs ), [], none⟩⟩
noncomputable def heldR.go  (m : Nat) (x0 : (El TConfig)) : R := run (heldR.cfg ) 8 heldR.rs m [.code heldR.body] (enter (ivA heldR.ps (x0, ())))
theorem heldR.start  (m : Nat) (x0 : (El TConfig)) : heldR.go  (m + 1) x0 =
  test (mayCR.pre (x0, Unit.unit)) (
   cond (Bool.not (mayC x0)) (
    some ((.agg [(.v (.int .i64 defC.1)), (.v (.int .i64 defC.2.1)), (.v (.int .i64 defC.2.2.1)), (.v (.int .i64 defC.2.2.2.1)), (.v (.int .i64 defC.2.2.2.2.1)), (.v (.int .i64 defC.2.2.2.2.2.1)), (.v (.int .i64 defC.2.2.2.2.2.2.1)), (.v (.int .i64 defC.2.2.2.2.2.2.2.1)), (.v (.int .i64 defC.2.2.2.2.2.2.2.2.1)), (.v (.int .i64 defC.2.2.2.2.2.2.2.2.2.1)), (.v (.int .i64 defC.2.2.2.2.2.2.2.2.2.2.1)), (.v (.int .i64 defC.2.2.2.2.2.2.2.2.2.2.2.1)), (.v (.int .i64 defC.2.2.2.2.2.2.2.2.2.2.2.2.1)), (.v (.int .i64 defC.2.2.2.2.2.2.2.2.2.2.2.2.2.1)), (.v (.int .i64 defC.2.2.2.2.2.2.2.2.2.2.2.2.2.2.1)), (.v (.bool defC.2.2.2.2.2.2.2.2.2.2.2.2.2.2.2.1)), (.v (.int .i64 defC.2.2.2.2.2.2.2.2.2.2.2.2.2.2.2.2.1)), (.v (.int .i64 defC.2.2.2.2.2.2.2.2.2.2.2.2.2.2.2.2.2.1)), (.v (.int .i64 defC.2.2.2.2.2.2.2.2.2.2.2.2.2.2.2.2.2.2.1)), (.v (.int .i64 defC.2.2.2.2.2.2.2.2.2.2.2.2.2.2.2.2.2.2.2.1)), (.v (.int .i64 defC.2.2.2.2.2.2.2.2.2.2.2.2.2.2.2.2.2.2.2.2.1)), (.v (.string defC.2.2.2.2.2.2.2.2.2.2.2.2.2.2.2.2.2.2.2.2.2.1)), (.v (.bool defC.2.2.2.2.2.2.2.2.2.2.2.2.2.2.2.2.2.2.2.2.2.2))]), [])) (
    some ((.agg [(.v (.int .i64 x0.1)), (.v (.int .i64 x0.2.1)), (.v (.int .i64 x0.2.2.1)), (.v (.int .i64 x0.2.2.2.1)), (.v (.int .i64 x0.2.2.2.2.1)), (.v (.int .i64 x0.2.2.2.2.2.1)), (.v (.int .i64 x0.2.2.2.2.2.2.1)), (.v (.int .i64 x0.2.2.2.2.2.2.2.1)), (.v (.int .i64 x0.2.2.2.2.2.2.2.2.1)), (.v (.int .i64 x0.2.2.2.2.2.2.2.2.2.1)), (.v (.int .i64 x0.2.2.2.2.2.2.2.2.2.2.1)), (.v (.int .i64 x0.2.2.2.2.2.2.2.2.2.2.2.1)), (.v (.int .i64 x0.2.2.2.2.2.2.2.2.2.2.2.2.1)), (.v (.int .i64 x0.2.2.2.2.2.2.2.2.2.2.2.2.2.1)), (.v (.int .i64 x0.2.2.2.2.2.2.2.2.2.2.2.2.2.2.1)), (.v (.bool x0.2.2.2.2.2.2.2.2.2.2.2.2.2.2.2.1)), (.v (.int .i64 x0.2.2.2.2.2.2.2.2.2.2.2.2.2.2.2.2.1)), (.v (.int .i64 x0.2.2.2.2.2.2.2.2.2.2.2.2.2.2.2.2.2.1)), (.v (.int .i64 x0.2.2.2.2.2.2.2.2.2.2.2.2.2.2.2.2.2.2.1)), (.v (.int .i64 x0.2.2.2.2.2.2.2.2.2.2.2.2.2.2.2.2.2.2.2.1)), (.v (.int .i64 x0.2.2.2.2.2.2.2.2.2.2.2.2.2.2.2.2.2.2.2.2.1)), (.v (.string x0.2.2.2.2.2.2.2.2.2.2.2.2.2.2.2.2.2.2.2.2.2.1)), (.v (.bool x0.2.2.2.2.2.2.2.2.2.2.2.2.2.2.2.2.2.2.2.2.2.2))]), []))) := by kernel_rfl
theorem heldR.run_eq  (m : Nat) (x0 : (El TConfig)) : run (heldR.cfg ) Try.f11.ntmps Try.f11.results.toList m [.code (bodyOf Try.f11)] (enter (ivA heldR.ps (x0, ()))) = heldR.go  m x0 := by kernel_rfl
theorem heldR.ret  (hs : SpecsOK Try.prog (heldR.specs ))  (x0 : (El TConfig)) {m : Nat} {r : IV} (h : heldR.go  m x0 = some (r, [])) : VE.Returns Try.prog 11 (ivA heldR.ps (x0, ())) r :=
  returns_of_run (cfg := heldR.cfg ) (cfgOK_of mixed tab_ok hs .nil) rfl Try.func11 (body_some (by kernel_rfl)) (Nat.le_of_ble_eq_true (by kernel_rfl)) ((heldR.run_eq  m x0).trans h)
abbrev heldR.Law : Prop := ∀ (x0 : (El TConfig)), heldR.pre (x0, ()) = true → VE.Returns Try.prog 11 (ivA heldR.ps (x0, ())) (heldR.res (x0, ()))
theorem heldR.mkR (H : ∀ (x0 : (El TConfig)), heldR.pre (x0, ()) = true → VE.Returns Try.prog 11 (ivA heldR.ps (x0, ())) (heldR.res (x0, ()))) : SpecOK Try.prog 11 heldR.sp :=
  specOf_ret Try.func11 (by kernel_rfl) (by kernel_rfl) fun (x : (El TConfig) × Unit) hx => H (x.1) hx
theorem heldR.mk  (hs : SpecsOK Try.prog (heldR.specs ))  (H : ∀ (x0 : (El TConfig)), heldR.pre (x0, ()) = true → ∃ m, heldR.go  m x0 = some (heldR.res (x0, ()), [])) : SpecOK Try.prog 11 heldR.sp :=
  heldR.mkR fun x0 hx => (H x0 hx).elim fun _ hm => heldR.ret  hs  x0 hm

end Go.Proofs.Ytaikjghfccenfaa
