/-
  Steps of the bodies, from checkpoint to checkpoint (printed by wip/VE/mk2.py).
-/
import Derived.Test.YtlaifjifgoadkaaT
import Derived.Test.YtlaifjifgoadkaaOA
namespace Go.Proofs.Ytlaifjifgoadkaa
open Go VE

/-! ### triage/order.Less -/
abbrev less.ps : List AK := [.d true TKey, .d true TKey]
def less.pre : ElA less.ps → Bool := fun (x : (El TKey) × (El TKey) × Unit) => fits TKey (x.1) && (fits TKey (x.2.1) && (true))
def less.res : ElA less.ps → IV := fun (x : (El TKey) × (El TKey) × Unit) => (fun a b => vb (less a b)) x.1 x.2.1
def less.sp : ISpec := spOf less.ps less.pre less.res
abbrev less.OK : Prop := SpecOK Try.prog 16 less.sp
noncomputable def less.body : Code := bodyOf Try.f16
noncomputable def less.rs : List ResultVar := Try.f16.results.toList
def less.live : List (Nat × Live) := []
noncomputable def less.specs  : List (Nat × (List Bool × ISpec)) := []
noncomputable def less.ospecs  : List (Nat × OS) := []
noncomputable def less.cfg  : Cfg := ⟨lkp tab, lkp (less.specs ), lkp less.live, ⟨lkp (less.ospecs ), [], none, false, []⟩⟩
noncomputable def less.go  (m : Nat) (x0 : (El TKey)) (x1 : (El TKey)) : R := run (less.cfg ) 24 less.rs m [.code less.body] (enter (ivA less.ps (x0, x1, ())))
theorem less.start  (m : Nat) (x0 : (El TKey)) (x1 : (El TKey)) : less.go  (m + 1) x0 x1 =
  cond (decide (x0.1 < x1.1)) (
   some ((.c (.v (.bool true))), [])) (
   cond (x0.1 == x1.1) (
    some ((.c (.v (.bool (decide (x0.2 < x1.2))))), [])) (
    some ((.c (.v (.bool false))), []))) := by kernel_rfl
theorem less.run_eq  (m : Nat) (x0 : (El TKey)) (x1 : (El TKey)) : run (less.cfg ) Try.f16.ntmps Try.f16.results.toList m [.code (bodyOf Try.f16)] (enter (ivA less.ps (x0, x1, ()))) = less.go  m x0 x1 := by kernel_rfl
theorem less.ret  (hs : SpecsOK Try.prog (less.specs ))  (x0 : (El TKey)) (x1 : (El TKey)) {m : Nat} {r : IV} (h : less.go  m x0 x1 = some (r, [])) : VE.Returns Try.prog 16 (ivA less.ps (x0, x1, ())) r :=
  returns_of_run (cfg := less.cfg ) (cfgOK_of mixed tab_ok hs .nil) rfl Try.func16 (body_some (by kernel_rfl)) (Nat.le_of_ble_eq_true (by kernel_rfl)) ((less.run_eq  m x0 x1).trans h)
abbrev less.Law : Prop := ∀ (x0 : (El TKey)) (x1 : (El TKey)), less.pre (x0, x1, ()) = true → VE.Returns Try.prog 16 (ivA less.ps (x0, x1, ())) (less.res (x0, x1, ()))
theorem less.mkR (H : ∀ (x0 : (El TKey)) (x1 : (El TKey)), less.pre (x0, x1, ()) = true → VE.Returns Try.prog 16 (ivA less.ps (x0, x1, ())) (less.res (x0, x1, ()))) : SpecOK Try.prog 16 less.sp :=
  specOf_ret Try.func16 (by kernel_rfl) (by kernel_rfl) fun (x : (El TKey) × (El TKey) × Unit) hx => H (x.1) (x.2.1) hx
theorem less.mk  (hs : SpecsOK Try.prog (less.specs ))  (H : ∀ (x0 : (El TKey)) (x1 : (El TKey)), less.pre (x0, x1, ()) = true → ∃ m, less.go  m x0 x1 = some (less.res (x0, x1, ()), [])) : SpecOK Try.prog 16 less.sp :=
  less.mkR fun x0 x1 hx => (H x0 x1 hx).elim fun _ hm => less.ret  hs  x0 x1 hm

/-! ### triage/order.Rising -/
abbrev rising.ps : List AK := [.d false (.sl TKey)]
def rising.pre : ElA rising.ps → Bool := fun (x : (List (El TKey)) × Unit) => fits (.sl TKey) (x.1) && (true)
def rising.res : ElA rising.ps → IV := fun (x : (List (El TKey)) × Unit) => (fun l => vb (rising l)) x.1
def rising.sp : ISpec := spOf rising.ps rising.pre rising.res
abbrev rising.OK : Prop := SpecOK Try.prog 15 rising.sp
noncomputable def rising.body : Code := bodyOf Try.f15
noncomputable def rising.rs : List ResultVar := Try.f15.results.toList
def rising.live : List (Nat × Live) := [(2, ⟨[(0, .sl TKey), (3, .plain)], []⟩)]
noncomputable def rising.specs  : List (Nat × (List Bool × ISpec)) := [(16, ([], less.sp))]
noncomputable def rising.ospecs  : List (Nat × OS) := []
noncomputable def rising.cfg  : Cfg := ⟨lkp tab, lkp (rising.specs ), lkp rising.live, ⟨lkp (rising.ospecs ), [], none, false, []⟩⟩
noncomputable def rising.l1  (m : Nat) (x0 : List (El TKey)) (x1 : Int) : R := run (rising.cfg ) 21 rising.rs m ((todoR 2 rising.body []).getD []) ⟨ofList (.c .junk) [(0, (.c (.sl TKey x0))), (3, (.c (.v (.int .i64 x1))))], ofList none [], ofList false []⟩
noncomputable def rising.go  (m : Nat) (x0 : (List (El TKey))) : R := run (rising.cfg ) 21 rising.rs m [.code rising.body] (enter (ivA rising.ps (x0, ())))
theorem rising.start  (m : Nat) (x0 : (List (El TKey))) : rising.go  (m + 1) x0 =
  rising.l1  m x0 (1 : Int) := by kernel_rfl
theorem rising.s1  (m : Nat) (x0 : List (El TKey)) (x1 : Int) : rising.l1  (m + 1) x0 x1 =
  cond (decide (x1 < ((List.length x0) : Int))) (
   test (decide ((0 : Int) ≤ (IntKind.i64.wrap (x1 - (1 : Int))))) (
    test (decide ((IntKind.i64.wrap (x1 - (1 : Int))) < ((List.length x0) : Int))) (
     test (decide ((0 : Int) ≤ x1)) (
      test (decide (x1 < ((List.length x0) : Int))) (
       cond (Bool.not (less ((rdEl TKey x0 (Int.toNat (IntKind.i64.wrap (x1 - (1 : Int)))))) ((rdEl TKey x0 (Int.toNat x1))))) (
        some ((.c (.v (.bool false))), [])) (
        rising.l1  m x0 (IntKind.i64.wrap (x1 + (1 : Int))))))))) (
   some ((.c (.v (.bool true))), [])) := by kernel_rfl
theorem rising.run_eq  (m : Nat) (x0 : (List (El TKey))) : run (rising.cfg ) Try.f15.ntmps Try.f15.results.toList m [.code (bodyOf Try.f15)] (enter (ivA rising.ps (x0, ()))) = rising.go  m x0 := by kernel_rfl
theorem rising.ret  (hs : SpecsOK Try.prog (rising.specs ))  (x0 : (List (El TKey))) {m : Nat} {r : IV} (h : rising.go  m x0 = some (r, [])) : VE.Returns Try.prog 15 (ivA rising.ps (x0, ())) r :=
  returns_of_run (cfg := rising.cfg ) (cfgOK_of mixed tab_ok hs .nil) rfl Try.func15 (body_some (by kernel_rfl)) (Nat.le_of_ble_eq_true (by kernel_rfl)) ((rising.run_eq  m x0).trans h)
abbrev rising.Law : Prop := ∀ (x0 : (List (El TKey))), rising.pre (x0, ()) = true → VE.Returns Try.prog 15 (ivA rising.ps (x0, ())) (rising.res (x0, ()))
theorem rising.mkR (H : ∀ (x0 : (List (El TKey))), rising.pre (x0, ()) = true → VE.Returns Try.prog 15 (ivA rising.ps (x0, ())) (rising.res (x0, ()))) : SpecOK Try.prog 15 rising.sp :=
  specOf_ret Try.func15 (by kernel_rfl) (by kernel_rfl) fun (x : (List (El TKey)) × Unit) hx => H (x.1) hx
theorem rising.mk  (hs : SpecsOK Try.prog (rising.specs ))  (H : ∀ (x0 : (List (El TKey))), rising.pre (x0, ()) = true → ∃ m, rising.go  m x0 = some (rising.res (x0, ()), [])) : SpecOK Try.prog 15 rising.sp :=
  rising.mkR fun x0 hx => (H x0 hx).elim fun _ hm => rising.ret  hs  x0 hm

/-! ### triage/order.Merge -/
abbrev merge.ps : List AK := [.d false (.sl TKey), .d false (.sl TKey)]
def merge.pre : ElA merge.ps → Bool := fun (x : (List (El TKey)) × (List (El TKey)) × Unit) => fits (.sl TKey) (x.1) && (fits (.sl TKey) (x.2.1) && ((fun l m => decide (List.length l + List.length m ≤ 1000000)) x.1 x.2.1 && (true)))
def merge.res : ElA merge.ps → IV := fun (x : (List (El TKey)) × (List (El TKey)) × Unit) => (fun l m => .c (.sl TKey (merge l m))) x.1 x.2.1
def merge.sp : ISpec := spOf merge.ps merge.pre merge.res
abbrev merge.OK : Prop := SpecOK Try.prog 13 merge.sp
noncomputable def merge.body : Code := bodyOf Try.f13
noncomputable def merge.rs : List ResultVar := Try.f13.results.toList
def merge.live : List (Nat × Live) := [(3, ⟨[(0, .sl TKey), (1, .sl TKey), (5, .arr 24 TKey)], []⟩)]
noncomputable def merge.specs  : List (Nat × (List Bool × ISpec)) := [(16, ([], less.sp))]
noncomputable def merge.ospecs  : List (Nat × OS) := []
noncomputable def merge.cfg  : Cfg := ⟨lkp tab, lkp (merge.specs ), lkp merge.live, ⟨lkp (merge.ospecs ), [], none, false, []⟩⟩
noncomputable def merge.l1  (m : Nat) (x0 : List (El TKey)) (x1 : List (El TKey)) (x2 : List (El TKey)) : R := run (merge.cfg ) 57 merge.rs m ((todoR 3 merge.body []).getD []) ⟨ofList (.c .junk) [(0, (.c (.sl TKey x0))), (1, (.c (.sl TKey x1))), (5, (.c (.sref 766)))], ofList none [(766, some (.arr 24 TKey x2 false))], ofList false [(766, true)]⟩
noncomputable def merge.go  (m : Nat) (x0 : (List (El TKey))) (x1 : (List (El TKey))) : R := run (merge.cfg ) 57 merge.rs m [.code merge.body] (enter (ivA merge.ps (x0, x1, ())))
theorem merge.start  (m : Nat) (x0 : (List (El TKey))) (x1 : (List (El TKey))) : merge.go  (m + 1) x0 x1 =
  test (decide ((0 : Int) ≤ (IntKind.i64.wrap (((List.length x0) : Int) + ((List.length x1) : Int))))) (
   test (decide ((IntKind.i64.wrap (((List.length x0) : Int) + ((List.length x1) : Int))) ≤ ((lim 16) : Int))) (
    merge.l1  m x0 x1 (List.replicate (Int.toNat (0 : Int)) ((0 : Int), (0 : Int))))) := by kernel_rfl
theorem merge.s1  (m : Nat) (x0 : List (El TKey)) (x1 : List (El TKey)) (x2 : List (El TKey)) : merge.l1  (m + 1) x0 x1 x2 =
  cond (((List.length x0) : Int) == (0 : Int)) (
   cond (((List.length x1) : Int) == (0 : Int)) (
    some ((.c (.sl TKey x2)), [])) (
    cond (((List.length x1) : Int) == (0 : Int)) (
     test (decide ((0 : Int) < ((List.length x0) : Int))) (
      test (decide (((List.length x2) + (List.length (((rdEl TKey x0 (Int.toNat (0 : Int)))) :: ([] : List (El TKey))))) ≤ (lim 16))) (
       test (decide ((1 : Int) ≤ ((List.length x0) : Int))) (
        merge.l1  m (List.drop (Int.toNat (1 : Int)) (List.take (List.length x0) x0)) x1 (x2 ++ (((rdEl TKey x0 (Int.toNat (0 : Int)))) :: ([] : List (El TKey)))))))) (
     cond (decide (((List.length x0) : Int) > (0 : Int))) (
      test (decide ((0 : Int) < ((List.length x1) : Int))) (
       test (decide ((0 : Int) < ((List.length x0) : Int))) (
        cond (Bool.not (less ((rdEl TKey x1 (Int.toNat (0 : Int)))) ((rdEl TKey x0 (Int.toNat (0 : Int)))))) (
         test (decide ((0 : Int) < ((List.length x0) : Int))) (
          test (decide (((List.length x2) + (List.length (((rdEl TKey x0 (Int.toNat (0 : Int)))) :: ([] : List (El TKey))))) ≤ (lim 16))) (
           test (decide ((1 : Int) ≤ ((List.length x0) : Int))) (
            merge.l1  m (List.drop (Int.toNat (1 : Int)) (List.take (List.length x0) x0)) x1 (x2 ++ (((rdEl TKey x0 (Int.toNat (0 : Int)))) :: ([] : List (El TKey)))))))) (
         test (decide ((0 : Int) < ((List.length x1) : Int))) (
          test (decide (((List.length x2) + (List.length (((rdEl TKey x1 (Int.toNat (0 : Int)))) :: ([] : List (El TKey))))) ≤ (lim 16))) (
           test (decide ((1 : Int) ≤ ((List.length x1) : Int))) (
            merge.l1  m x0 (List.drop (Int.toNat (1 : Int)) (List.take (List.length x1) x1)) (x2 ++ (((rdEl TKey x1 (Int.toNat (0 : Int)))) :: ([] : List (El TKey))))))))))) (
      test (decide ((0 : Int) < ((List.length x1) : Int))) (
       test (decide (((List.length x2) + (List.length (((rdEl TKey x1 (Int.toNat (0 : Int)))) :: ([] : List (El TKey))))) ≤ (lim 16))) (
        test (decide ((1 : Int) ≤ ((List.length x1) : Int))) (
         merge.l1  m x0 (List.drop (Int.toNat (1 : Int)) (List.take (List.length x1) x1)) (x2 ++ (((rdEl TKey x1 (Int.toNat (0 : Int)))) :: ([] : List (El TKey))))))))))) (
   cond (((List.length x1) : Int) == (0 : Int)) (
    test (decide ((0 : Int) < ((List.length x0) : Int))) (
     test (decide (((List.length x2) + (List.length (((rdEl TKey x0 (Int.toNat (0 : Int)))) :: ([] : List (El TKey))))) ≤ (lim 16))) (
      test (decide ((1 : Int) ≤ ((List.length x0) : Int))) (
       merge.l1  m (List.drop (Int.toNat (1 : Int)) (List.take (List.length x0) x0)) x1 (x2 ++ (((rdEl TKey x0 (Int.toNat (0 : Int)))) :: ([] : List (El TKey)))))))) (
    cond (decide (((List.length x0) : Int) > (0 : Int))) (
     test (decide ((0 : Int) < ((List.length x1) : Int))) (
      test (decide ((0 : Int) < ((List.length x0) : Int))) (
       cond (Bool.not (less ((rdEl TKey x1 (Int.toNat (0 : Int)))) ((rdEl TKey x0 (Int.toNat (0 : Int)))))) (
        test (decide ((0 : Int) < ((List.length x0) : Int))) (
         test (decide (((List.length x2) + (List.length (((rdEl TKey x0 (Int.toNat (0 : Int)))) :: ([] : List (El TKey))))) ≤ (lim 16))) (
          test (decide ((1 : Int) ≤ ((List.length x0) : Int))) (
           merge.l1  m (List.drop (Int.toNat (1 : Int)) (List.take (List.length x0) x0)) x1 (x2 ++ (((rdEl TKey x0 (Int.toNat (0 : Int)))) :: ([] : List (El TKey)))))))) (
        test (decide ((0 : Int) < ((List.length x1) : Int))) (
         test (decide (((List.length x2) + (List.length (((rdEl TKey x1 (Int.toNat (0 : Int)))) :: ([] : List (El TKey))))) ≤ (lim 16))) (
          test (decide ((1 : Int) ≤ ((List.length x1) : Int))) (
           merge.l1  m x0 (List.drop (Int.toNat (1 : Int)) (List.take (List.length x1) x1)) (x2 ++ (((rdEl TKey x1 (Int.toNat (0 : Int)))) :: ([] : List (El TKey))))))))))) (
     test (decide ((0 : Int) < ((List.length x1) : Int))) (
      test (decide (((List.length x2) + (List.length (((rdEl TKey x1 (Int.toNat (0 : Int)))) :: ([] : List (El TKey))))) ≤ (lim 16))) (
       test (decide ((1 : Int) ≤ ((List.length x1) : Int))) (
        merge.l1  m x0 (List.drop (Int.toNat (1 : Int)) (List.take (List.length x1) x1)) (x2 ++ (((rdEl TKey x1 (Int.toNat (0 : Int)))) :: ([] : List (El TKey)))))))))) := by kernel_rfl
theorem merge.run_eq  (m : Nat) (x0 : (List (El TKey))) (x1 : (List (El TKey))) : run (merge.cfg ) Try.f13.ntmps Try.f13.results.toList m [.code (bodyOf Try.f13)] (enter (ivA merge.ps (x0, x1, ()))) = merge.go  m x0 x1 := by kernel_rfl
theorem merge.ret  (hs : SpecsOK Try.prog (merge.specs ))  (x0 : (List (El TKey))) (x1 : (List (El TKey))) {m : Nat} {r : IV} (h : merge.go  m x0 x1 = some (r, [])) : VE.Returns Try.prog 13 (ivA merge.ps (x0, x1, ())) r :=
  returns_of_run (cfg := merge.cfg ) (cfgOK_of mixed tab_ok hs .nil) rfl Try.func13 (body_some (by kernel_rfl)) (Nat.le_of_ble_eq_true (by kernel_rfl)) ((merge.run_eq  m x0 x1).trans h)
abbrev merge.Law : Prop := ∀ (x0 : (List (El TKey))) (x1 : (List (El TKey))), merge.pre (x0, x1, ()) = true → VE.Returns Try.prog 13 (ivA merge.ps (x0, x1, ())) (merge.res (x0, x1, ()))
theorem merge.mkR (H : ∀ (x0 : (List (El TKey))) (x1 : (List (El TKey))), merge.pre (x0, x1, ()) = true → VE.Returns Try.prog 13 (ivA merge.ps (x0, x1, ())) (merge.res (x0, x1, ()))) : SpecOK Try.prog 13 merge.sp :=
  specOf_ret Try.func13 (by kernel_rfl) (by kernel_rfl) fun (x : (List (El TKey)) × (List (El TKey)) × Unit) hx => H (x.1) (x.2.1) hx
theorem merge.mk  (hs : SpecsOK Try.prog (merge.specs ))  (H : ∀ (x0 : (List (El TKey))) (x1 : (List (El TKey))), merge.pre (x0, x1, ()) = true → ∃ m, merge.go  m x0 x1 = some (merge.res (x0, x1, ()), [])) : SpecOK Try.prog 13 merge.sp :=
  merge.mkR fun x0 x1 hx => (H x0 x1 hx).elim fun _ hm => merge.ret  hs  x0 x1 hm

/-! ### triage/order.Sort -/
abbrev sort.ps : List AK := [.d false (.sl TKey)]
def sort.pre : ElA sort.ps → Bool := fun (x : (List (El TKey)) × Unit) => fits (.sl TKey) (x.1) && ((fun l => decide (List.length l ≤ 1000000)) x.1 && (true))
def sort.res : ElA sort.ps → IV := fun (x : (List (El TKey)) × Unit) => (fun l => .c (.sl TKey (sort l))) x.1
def sort.sp : ISpec := spOf sort.ps sort.pre sort.res
abbrev sort.OK : Prop := SpecOK Try.prog 9 sort.sp
noncomputable def sort.body : Code := bodyOf Try.f9
noncomputable def sort.rs : List ResultVar := Try.f9.results.toList
def sort.live : List (Nat × Live) := []
noncomputable def sort.specs (N : Nat) : List (Nat × (List Bool × ISpec)) := [(13, ([], merge.sp)), (9, ([], (spOf sort.ps (fun (x : (List (El TKey)) × Unit) => decide (List.length x.1 < N) && sort.pre x) sort.res)))]
noncomputable def sort.ospecs (N : Nat) : List (Nat × OS) := []
noncomputable def sort.cfg (N : Nat) : Cfg := ⟨lkp tab, lkp (sort.specs N), lkp sort.live, ⟨lkp (sort.ospecs N), [], none, false, []⟩⟩
noncomputable def sort.go (N : Nat) (m : Nat) (x0 : (List (El TKey))) : R := run (sort.cfg N) 21 sort.rs m [.code sort.body] (enter (ivA sort.ps (x0, ())))
theorem sort.start (N : Nat) (m : Nat) (x0 : (List (El TKey))) : sort.go N (m + 1) x0 =
  cond (decide (((List.length x0) : Int) < (2 : Int))) (
   test (decide ((List.length x0) ≤ (lim 16))) (
    some ((.c (.sl TKey x0)), []))) (
   test (decide ((0 : Int) ≤ (IntKind.i64.wrap (Int.tdiv ((List.length x0) : Int) (2 : Int))))) (
    test (decide ((IntKind.i64.wrap (Int.tdiv ((List.length x0) : Int) (2 : Int))) ≤ ((List.length x0) : Int))) (
     test ((decide ((List.length (List.drop 0 (List.take (Int.toNat (IntKind.i64.wrap (Int.tdiv ((List.length x0) : Int) (2 : Int)))) x0))) < N)) && (sort.pre ((List.drop 0 (List.take (Int.toNat (IntKind.i64.wrap (Int.tdiv ((List.length x0) : Int) (2 : Int)))) x0)), Unit.unit))) (
      test (decide ((0 : Int) ≤ (IntKind.i64.wrap (Int.tdiv ((List.length x0) : Int) (2 : Int))))) (
       test (decide ((IntKind.i64.wrap (Int.tdiv ((List.length x0) : Int) (2 : Int))) ≤ ((List.length x0) : Int))) (
        test ((decide ((List.length (List.drop (Int.toNat (IntKind.i64.wrap (Int.tdiv ((List.length x0) : Int) (2 : Int)))) (List.take (List.length x0) x0))) < N)) && (sort.pre ((List.drop (Int.toNat (IntKind.i64.wrap (Int.tdiv ((List.length x0) : Int) (2 : Int)))) (List.take (List.length x0) x0)), Unit.unit))) (
         test (merge.pre ((sort (List.drop 0 (List.take (Int.toNat (IntKind.i64.wrap (Int.tdiv ((List.length x0) : Int) (2 : Int)))) x0))), ((sort (List.drop (Int.toNat (IntKind.i64.wrap (Int.tdiv ((List.length x0) : Int) (2 : Int)))) (List.take (List.length x0) x0))), Unit.unit))) (
          some ((.c (.sl TKey (merge (sort (List.drop 0 (List.take (Int.toNat (IntKind.i64.wrap (Int.tdiv ((List.length x0) : Int) (2 : Int)))) x0))) (sort (List.drop (Int.toNat (IntKind.i64.wrap (Int.tdiv ((List.length x0) : Int) (2 : Int)))) (List.take (List.length x0) x0)))))), []))))))))) := by kernel_rfl
theorem sort.run_eq (N : Nat) (m : Nat) (x0 : (List (El TKey))) : run (sort.cfg N) Try.f9.ntmps Try.f9.results.toList m [.code (bodyOf Try.f9)] (enter (ivA sort.ps (x0, ()))) = sort.go N m x0 := by kernel_rfl
theorem sort.ret (N : Nat) (hs : SpecsOK Try.prog (sort.specs N))  (x0 : (List (El TKey))) {m : Nat} {r : IV} (h : sort.go N m x0 = some (r, [])) : VE.Returns Try.prog 9 (ivA sort.ps (x0, ())) r :=
  returns_of_run (cfg := sort.cfg N) (cfgOK_of mixed tab_ok hs .nil) rfl Try.func9 (body_some (by kernel_rfl)) (Nat.le_of_ble_eq_true (by kernel_rfl)) ((sort.run_eq N m x0).trans h)
abbrev sort.Law : Prop := ∀ (x0 : (List (El TKey))), sort.pre (x0, ()) = true → VE.Returns Try.prog 9 (ivA sort.ps (x0, ())) (sort.res (x0, ()))
theorem sort.mkR (H : ∀ (x0 : (List (El TKey))), sort.pre (x0, ()) = true → VE.Returns Try.prog 9 (ivA sort.ps (x0, ())) (sort.res (x0, ()))) : SpecOK Try.prog 9 sort.sp :=
  specOf_ret Try.func9 (by kernel_rfl) (by kernel_rfl) fun (x : (List (El TKey)) × Unit) hx => H (x.1) hx
theorem sort.mk (N : Nat) (hs : SpecsOK Try.prog (sort.specs N))  (H : ∀ (x0 : (List (El TKey))), sort.pre (x0, ()) = true → ∃ m, sort.go N m x0 = some (sort.res (x0, ()), [])) : SpecOK Try.prog 9 sort.sp :=
  sort.mkR fun x0 hx => (H x0 hx).elim fun _ hm => sort.ret N hs  x0 hm

/-! ### triage/order.Find -/
abbrev find.ps : List AK := [.d false (.sl TKey), .d true TKey]
def find.pre : ElA find.ps → Bool := fun (x : (List (El TKey)) × (El TKey) × Unit) => fits (.sl TKey) (x.1) && (fits TKey (x.2.1) && ((fun l _ => decide (List.length l ≤ 1000000)) x.1 x.2.1 && (true)))
def find.res : ElA find.ps → IV := fun (x : (List (El TKey)) × (El TKey) × Unit) => (fun l k => .tup [vi .i64 ((find l k : Nat) : Int), vb (there l k)]) x.1 x.2.1
def find.sp : ISpec := spOf find.ps find.pre find.res
abbrev find.OK : Prop := SpecOK Try.prog 14 find.sp
noncomputable def find.body : Code := bodyOf Try.f14
noncomputable def find.rs : List ResultVar := Try.f14.results.toList
def find.live : List (Nat × Live) := [(2, ⟨[(0, .sl TKey), (3, .plain), (6, .plain), (7, .plain)], [(1, [])]⟩)]
noncomputable def find.specs  : List (Nat × (List Bool × ISpec)) := [(16, ([], less.sp))]
noncomputable def find.ospecs  : List (Nat × OS) := []
noncomputable def find.cfg  : Cfg := ⟨lkp tab, lkp (find.specs ), lkp find.live, ⟨lkp (find.ospecs ), [], none, false, []⟩⟩
noncomputable def find.l1  (m : Nat) (x0 : List (El TKey)) (x1 : Int) (x2 : Int) (x3 : Int) (x4 : Int) : R := run (find.cfg ) 42 find.rs m ((todoR 2 find.body []).getD []) ⟨ofList (.c .junk) [(0, (.c (.sl TKey x0))), (3, (.c (.ref 1 0))), (6, (.c (.v (.int .i64 x1)))), (7, (.c (.v (.int .i64 x2))))], ofList none [(1, some (.cells 24 [(.v (.int .i64 x3)), (.v (.int .i64 x4))]))], ofList false [(1, true)]⟩
noncomputable def find.go  (m : Nat) (x0 : (List (El TKey))) (x1 : (El TKey)) : R := run (find.cfg ) 42 find.rs m [.code find.body] (enter (ivA find.ps (x0, x1, ())))
theorem find.start  (m : Nat) (x0 : (List (El TKey))) (x1 : (El TKey)) : find.go  (m + 1) x0 x1 =
  find.l1  m x0 (0 : Int) ((List.length x0) : Int) x1.1 x1.2 := by kernel_rfl
theorem find.s1  (m : Nat) (x0 : List (El TKey)) (x1 : Int) (x2 : Int) (x3 : Int) (x4 : Int) : find.l1  (m + 1) x0 x1 x2 x3 x4 =
  cond (decide (x1 < x2)) (
   test (decide ((0 : Int) ≤ (IntKind.i64.wrap (x1 + (IntKind.i64.wrap (Int.tdiv (IntKind.i64.wrap (x2 - x1)) (2 : Int))))))) (
    test (decide ((IntKind.i64.wrap (x1 + (IntKind.i64.wrap (Int.tdiv (IntKind.i64.wrap (x2 - x1)) (2 : Int))))) < ((List.length x0) : Int))) (
     cond (less ((rdEl TKey x0 (Int.toNat (IntKind.i64.wrap (x1 + (IntKind.i64.wrap (Int.tdiv (IntKind.i64.wrap (x2 - x1)) (2 : Int)))))))) (x3, x4)) (
      find.l1  m x0 (IntKind.i64.wrap ((IntKind.i64.wrap (x1 + (IntKind.i64.wrap (Int.tdiv (IntKind.i64.wrap (x2 - x1)) (2 : Int))))) + (1 : Int))) x2 x3 x4) (
      find.l1  m x0 x1 (IntKind.i64.wrap (x1 + (IntKind.i64.wrap (Int.tdiv (IntKind.i64.wrap (x2 - x1)) (2 : Int))))) x3 x4)))) (
   cond (decide (x1 < ((List.length x0) : Int))) (
    test (decide ((0 : Int) ≤ x1)) (
     test (decide (x1 < ((List.length x0) : Int))) (
      some ((.tup [(.c (.v (.int .i64 x1))), (.c (.v (.bool ((((rdEl TKey x0 (Int.toNat x1))).1 == x3) && ((((rdEl TKey x0 (Int.toNat x1))).2 == x4) && true)))))]), [])))) (
    some ((.tup [(.c (.v (.int .i64 x1))), (.c (.v (.bool false)))]), []))) := by kernel_rfl
theorem find.run_eq  (m : Nat) (x0 : (List (El TKey))) (x1 : (El TKey)) : run (find.cfg ) Try.f14.ntmps Try.f14.results.toList m [.code (bodyOf Try.f14)] (enter (ivA find.ps (x0, x1, ()))) = find.go  m x0 x1 := by kernel_rfl
theorem find.ret  (hs : SpecsOK Try.prog (find.specs ))  (x0 : (List (El TKey))) (x1 : (El TKey)) {m : Nat} {r : IV} (h : find.go  m x0 x1 = some (r, [])) : VE.Returns Try.prog 14 (ivA find.ps (x0, x1, ())) r :=
  returns_of_run (cfg := find.cfg ) (cfgOK_of mixed tab_ok hs .nil) rfl Try.func14 (body_some (by kernel_rfl)) (Nat.le_of_ble_eq_true (by kernel_rfl)) ((find.run_eq  m x0 x1).trans h)
abbrev find.Law : Prop := ∀ (x0 : (List (El TKey))) (x1 : (El TKey)), find.pre (x0, x1, ()) = true → VE.Returns Try.prog 14 (ivA find.ps (x0, x1, ())) (find.res (x0, x1, ()))
theorem find.mkR (H : ∀ (x0 : (List (El TKey))) (x1 : (El TKey)), find.pre (x0, x1, ()) = true → VE.Returns Try.prog 14 (ivA find.ps (x0, x1, ())) (find.res (x0, x1, ()))) : SpecOK Try.prog 14 find.sp :=
  specOf_ret Try.func14 (by kernel_rfl) (by kernel_rfl) fun (x : (List (El TKey)) × (El TKey) × Unit) hx => H (x.1) (x.2.1) hx
theorem find.mk  (hs : SpecsOK Try.prog (find.specs ))  (H : ∀ (x0 : (List (El TKey))) (x1 : (El TKey)), find.pre (x0, x1, ()) = true → ∃ m, find.go  m x0 x1 = some (find.res (x0, x1, ()), [])) : SpecOK Try.prog 14 find.sp :=
  find.mkR fun x0 x1 hx => (H x0 x1 hx).elim fun _ hm => find.ret  hs  x0 x1 hm

/-! ### triage/triagelaw3.awake -/
abbrev awake.ps : List AK := []
def awake.pre : ElA awake.ps → Bool := fun (x : Unit) => true
def awake.res : ElA awake.ps → IV := fun (x : Unit) => (vb true) 
def awake.sp : ISpec := spOf awake.ps awake.pre awake.res
abbrev awake.OK : Prop := SpecOK Try.prog 8 awake.sp
noncomputable def awake.body : Code := bodyOf Try.f8
noncomputable def awake.rs : List ResultVar := Try.f8.results.toList
def awake.live : List (Nat × Live) := []
noncomputable def awake.specs  : List (Nat × (List Bool × ISpec)) := [(9, ([], sort.sp)), (14, ([], find.sp)), (15, ([], rising.sp))]
noncomputable def awake.ospecs  : List (Nat × OS) := []
noncomputable def awake.cfg  : Cfg := ⟨lkp tab, lkp (awake.specs ), lkp awake.live, ⟨lkp (awake.ospecs ), [], none, false, []⟩⟩
noncomputable def awake.go  (m : Nat)  : R := run (awake.cfg ) 43 awake.rs m [.code awake.body] (enter (ivA awake.ps ()))
theorem awake.start  (m : Nat)  : awake.go  (m + 1)  =
  some ((.c (.v (.bool (rising (sort (((2 : Int), (1 : Int)) :: (((1 : Int), (5 : Int)) :: (((2 : Int), (0 : Int)) :: ([] : List (El TKey)))))))))), []) := by kernel_rfl
theorem awake.run_eq  (m : Nat)  : run (awake.cfg ) Try.f8.ntmps Try.f8.results.toList m [.code (bodyOf Try.f8)] (enter (ivA awake.ps ())) = awake.go  m  := by kernel_rfl
theorem awake.ret  (hs : SpecsOK Try.prog (awake.specs ))   {m : Nat} {r : IV} (h : awake.go  m  = some (r, [])) : VE.Returns Try.prog 8 (ivA awake.ps ()) r :=
  returns_of_run (cfg := awake.cfg ) (cfgOK_of mixed tab_ok hs .nil) rfl Try.func8 (body_some (by kernel_rfl)) (Nat.le_of_ble_eq_true (by kernel_rfl)) ((awake.run_eq  m ).trans h)
abbrev awake.Law : Prop := ∀ (_ : Unit), awake.pre () = true → VE.Returns Try.prog 8 (ivA awake.ps ()) (awake.res ())
theorem awake.mkR (H : ∀ (_ : Unit), awake.pre () = true → VE.Returns Try.prog 8 (ivA awake.ps ()) (awake.res ())) : SpecOK Try.prog 8 awake.sp :=
  specOf_ret Try.func8 (by kernel_rfl) (by kernel_rfl) fun (x : Unit) hx => H () hx
theorem awake.mk  (hs : SpecsOK Try.prog (awake.specs ))  (H : ∀ (_ : Unit), awake.pre () = true → ∃ m, awake.go  m  = some (awake.res (), [])) : SpecOK Try.prog 8 awake.sp :=
  awake.mkR fun _ hx => (H () hx).elim fun _ hm => awake.ret  hs   hm

/-! ### triage/triagelaw3.OrderOne -/
abbrev lOne.ps : List AK := [.d false (.sl TKey), .d false (.int .i64)]
def lOne.pre : ElA lOne.ps → Bool := fun (x : (List (El TKey)) × Int × Unit) => fits (.sl TKey) (x.1) && (fits (.int .i64) (x.2.1) && (true))
def lOne.res : ElA lOne.ps → IV := fun (x : (List (El TKey)) × Int × Unit) => (fun _ _ => vb true) x.1 x.2.1
def lOne.sp : ISpec := spOf lOne.ps lOne.pre lOne.res
abbrev lOne.OK : Prop := SpecOK Try.prog 4 lOne.sp
noncomputable def lOne.body : Code := bodyOf Try.f4
noncomputable def lOne.rs : List ResultVar := Try.f4.results.toList
def lOne.live : List (Nat × Live) := [(19, ⟨[(9, .plain), (119, .sl TKey), (120, .plain), (121, .plain)], [(4609, [])]⟩), (11, ⟨[(0, .sl TKey), (6, .sl TKey), (7, .sl TKey), (8, .sl TKey), (9, .plain), (60, .plain), (61, .plain)], [(4609, [])]⟩)]
noncomputable def lOne.specs  : List (Nat × (List Bool × ISpec)) := [(8, ([], awake.sp)), (9, ([], sort.sp)), (16, ([], less.sp))]
noncomputable def lOne.ospecs  : List (Nat × OS) := []
noncomputable def lOne.cfg  : Cfg := ⟨lkp tab, lkp (lOne.specs ), lkp lOne.live, ⟨lkp (lOne.ospecs ), [], none, false, []⟩⟩
noncomputable def lOne.l1  (m : Nat) (x0 : List (El TKey)) (x1 : List (El TKey)) (x2 : List (El TKey)) (x3 : List (El TKey)) (x4 : Int) (x5 : Int) (x6 : List ((El TKey) × Int × Nat)) (x7 : Nat) : R := run (lOne.cfg ) 131 lOne.rs m ((todoR 11 lOne.body []).getD []) ⟨ofList (.c .junk) [(0, (.c (.sl TKey x0))), (6, (.c (.sl TKey x1))), (7, (.c (.sl TKey x2))), (8, (.c (.sl TKey x3))), (9, (.c (.mref 4609))), (60, (.c (.v (.int .i64 x4)))), (61, (.c (.v (.int .i64 x5))))], ofList none [(4609, some (.map TKey (.int .i64) x6 x7))], ofList false [(4609, true)]⟩
noncomputable def lOne.l2  (m : Nat) (x0 : List (El TKey)) (x1 : Int) (x2 : Int) (x3 : List ((El TKey) × Int × Nat)) (x4 : Nat) : R := run (lOne.cfg ) 131 lOne.rs m ((todoR 19 lOne.body []).getD []) ⟨ofList (.c .junk) [(9, (.c (.mref 4609))), (119, (.c (.sl TKey x0))), (120, (.c (.v (.int .i64 x1)))), (121, (.c (.v (.int .i64 x2))))], ofList none [(4609, some (.map TKey (.int .i64) x3 x4))], ofList false [(4609, true)]⟩
noncomputable def lOne.go  (m : Nat) (x0 : (List (El TKey))) (x1 : Int) : R := run (lOne.cfg ) 131 lOne.rs m [.code lOne.body] (enter (ivA lOne.ps (x0, x1, ())))
theorem lOne.start  (m : Nat) (x0 : (List (El TKey))) (x1 : Int) : lOne.go  (m + 1) x0 x1 =
  cond (decide (((List.length x0) : Int) > (200 : Int))) (
   some ((.c (.v (.bool true))), [])) (
   test (Bool.not (decide ((IntKind.u64.wrap (IntKind.i64.wrap (((List.length x0) : Int) + (1 : Int)))) = (0 : Int)))) (
    test (sort.pre (x0, Unit.unit)) (
     test (decide ((0 : Int) ≤ (IntKind.i64.wrap (Int.tmod (IntKind.u64.wrap x1) (IntKind.u64.wrap (IntKind.i64.wrap (((List.length x0) : Int) + (1 : Int)))))))) (
      test (decide ((IntKind.i64.wrap (Int.tmod (IntKind.u64.wrap x1) (IntKind.u64.wrap (IntKind.i64.wrap (((List.length x0) : Int) + (1 : Int)))))) ≤ ((List.length x0) : Int))) (
       test (decide (((List.length ([] : List (El TKey))) + (List.length (List.drop (Int.toNat (IntKind.i64.wrap (Int.tmod (IntKind.u64.wrap x1) (IntKind.u64.wrap (IntKind.i64.wrap (((List.length x0) : Int) + (1 : Int))))))) (List.take (List.length x0) x0)))) ≤ (lim 16))) (
        test (decide ((0 : Int) ≤ (IntKind.i64.wrap (Int.tmod (IntKind.u64.wrap x1) (IntKind.u64.wrap (IntKind.i64.wrap (((List.length x0) : Int) + (1 : Int)))))))) (
         test (decide ((IntKind.i64.wrap (Int.tmod (IntKind.u64.wrap x1) (IntKind.u64.wrap (IntKind.i64.wrap (((List.length x0) : Int) + (1 : Int)))))) ≤ ((List.length x0) : Int))) (
          test (decide (((List.length (([] : List (El TKey)) ++ (List.drop (Int.toNat (IntKind.i64.wrap (Int.tmod (IntKind.u64.wrap x1) (IntKind.u64.wrap (IntKind.i64.wrap (((List.length x0) : Int) + (1 : Int))))))) (List.take (List.length x0) x0)))) + (List.length (List.drop 0 (List.take (Int.toNat (IntKind.i64.wrap (Int.tmod (IntKind.u64.wrap x1) (IntKind.u64.wrap (IntKind.i64.wrap (((List.length x0) : Int) + (1 : Int))))))) x0)))) ≤ (lim 16))) (
           test (sort.pre (((([] : List (El TKey)) ++ (List.drop (Int.toNat (IntKind.i64.wrap (Int.tmod (IntKind.u64.wrap x1) (IntKind.u64.wrap (IntKind.i64.wrap (((List.length x0) : Int) + (1 : Int))))))) (List.take (List.length x0) x0))) ++ (List.drop 0 (List.take (Int.toNat (IntKind.i64.wrap (Int.tmod (IntKind.u64.wrap x1) (IntKind.u64.wrap (IntKind.i64.wrap (((List.length x0) : Int) + (1 : Int))))))) x0))), Unit.unit)) (
            test (sort.pre ((sort x0), Unit.unit)) (
             cond (bne ((List.length (sort x0)) : Int) ((List.length x0) : Int)) (
              some ((.c (.v (.bool false))), [])) (
              cond (bne ((List.length (sort ((([] : List (El TKey)) ++ (List.drop (Int.toNat (IntKind.i64.wrap (Int.tmod (IntKind.u64.wrap x1) (IntKind.u64.wrap (IntKind.i64.wrap (((List.length x0) : Int) + (1 : Int))))))) (List.take (List.length x0) x0))) ++ (List.drop 0 (List.take (Int.toNat (IntKind.i64.wrap (Int.tmod (IntKind.u64.wrap x1) (IntKind.u64.wrap (IntKind.i64.wrap (((List.length x0) : Int) + (1 : Int))))))) x0))))) : Int) ((List.length x0) : Int)) (
               some ((.c (.v (.bool false))), [])) (
               cond (bne ((List.length (sort (sort x0))) : Int) ((List.length x0) : Int)) (
                some ((.c (.v (.bool false))), [])) (
                lOne.l1  m x0 (sort x0) (sort ((([] : List (El TKey)) ++ (List.drop (Int.toNat (IntKind.i64.wrap (Int.tmod (IntKind.u64.wrap x1) (IntKind.u64.wrap (IntKind.i64.wrap (((List.length x0) : Int) + (1 : Int))))))) (List.take (List.length x0) x0))) ++ (List.drop 0 (List.take (Int.toNat (IntKind.i64.wrap (Int.tmod (IntKind.u64.wrap x1) (IntKind.u64.wrap (IntKind.i64.wrap (((List.length x0) : Int) + (1 : Int))))))) x0)))) (sort (sort x0)) ((List.length (sort x0)) : Int) (0 : Int) [] 0)))))))))))))) := by kernel_rfl
theorem lOne.s1  (m : Nat) (x0 : List (El TKey)) (x1 : List (El TKey)) (x2 : List (El TKey)) (x3 : List (El TKey)) (x4 : Int) (x5 : Int) (x6 : List ((El TKey) × Int × Nat)) (x7 : Nat) : lOne.l1  (m + 1) x0 x1 x2 x3 x4 x5 x6 x7 =
  cond (decide (x5 < x4)) (
   test (decide ((0 : Int) ≤ x5)) (
    test (decide (x5 < ((List.length x1) : Int))) (
     test (decide ((0 : Int) ≤ x5)) (
      test (decide (x5 < ((List.length x2) : Int))) (
       cond (Bool.not ((((rdEl TKey x1 (Int.toNat x5))).1 == ((rdEl TKey x2 (Int.toNat x5))).1) && ((((rdEl TKey x1 (Int.toNat x5))).2 == ((rdEl TKey x2 (Int.toNat x5))).2) && true))) (
        some ((.c (.v (.bool false))), [])) (
        test (decide ((0 : Int) ≤ x5)) (
         test (decide (x5 < ((List.length x1) : Int))) (
          test (decide ((0 : Int) ≤ x5)) (
           test (decide (x5 < ((List.length x3) : Int))) (
            cond (Bool.not ((((rdEl TKey x1 (Int.toNat x5))).1 == ((rdEl TKey x3 (Int.toNat x5))).1) && ((((rdEl TKey x1 (Int.toNat x5))).2 == ((rdEl TKey x3 (Int.toNat x5))).2) && true))) (
             some ((.c (.v (.bool false))), [])) (
             cond (decide (x5 > (0 : Int))) (
              test (decide ((0 : Int) ≤ x5)) (
               test (decide (x5 < ((List.length x1) : Int))) (
                test (decide ((0 : Int) ≤ (IntKind.i64.wrap (x5 - (1 : Int))))) (
                 test (decide ((IntKind.i64.wrap (x5 - (1 : Int))) < ((List.length x1) : Int))) (
                  cond (less ((rdEl TKey x1 (Int.toNat x5))) ((rdEl TKey x1 (Int.toNat (IntKind.i64.wrap (x5 - (1 : Int))))))) (
                   some ((.c (.v (.bool false))), [])) (
                   test (decide ((0 : Int) ≤ x5)) (
                    test (decide (x5 < ((List.length x1) : Int))) (
                     test (bornIn TKey (.int .i64) ((bornE TKey (.int .i64) x7 ((rdEl TKey x1 (Int.toNat x5))) x6) : Int) (setE TKey (.int .i64) x7 ((rdEl TKey x1 (Int.toNat x5))) (getE TKey (.int .i64) (0 : Int) ((rdEl TKey x1 (Int.toNat x5))) x6) x6)) (
                      test (decide ((0 : Int) ≤ x5)) (
                       test (decide (x5 < ((List.length x0) : Int))) (
                        test (bornIn TKey (.int .i64) ((bornE TKey (.int .i64) (clockE TKey (.int .i64) x7 ((rdEl TKey x1 (Int.toNat x5))) x6) ((rdEl TKey x0 (Int.toNat x5))) (putE TKey (.int .i64) ((bornE TKey (.int .i64) x7 ((rdEl TKey x1 (Int.toNat x5))) x6) : Int) (IntKind.i64.wrap ((getE TKey (.int .i64) (0 : Int) ((rdEl TKey x1 (Int.toNat x5))) x6) + (1 : Int))) (setE TKey (.int .i64) x7 ((rdEl TKey x1 (Int.toNat x5))) (getE TKey (.int .i64) (0 : Int) ((rdEl TKey x1 (Int.toNat x5))) x6) x6))) : Int) (setE TKey (.int .i64) (clockE TKey (.int .i64) x7 ((rdEl TKey x1 (Int.toNat x5))) x6) ((rdEl TKey x0 (Int.toNat x5))) (getE TKey (.int .i64) (0 : Int) ((rdEl TKey x0 (Int.toNat x5))) (putE TKey (.int .i64) ((bornE TKey (.int .i64) x7 ((rdEl TKey x1 (Int.toNat x5))) x6) : Int) (IntKind.i64.wrap ((getE TKey (.int .i64) (0 : Int) ((rdEl TKey x1 (Int.toNat x5))) x6) + (1 : Int))) (setE TKey (.int .i64) x7 ((rdEl TKey x1 (Int.toNat x5))) (getE TKey (.int .i64) (0 : Int) ((rdEl TKey x1 (Int.toNat x5))) x6) x6))) (putE TKey (.int .i64) ((bornE TKey (.int .i64) x7 ((rdEl TKey x1 (Int.toNat x5))) x6) : Int) (IntKind.i64.wrap ((getE TKey (.int .i64) (0 : Int) ((rdEl TKey x1 (Int.toNat x5))) x6) + (1 : Int))) (setE TKey (.int .i64) x7 ((rdEl TKey x1 (Int.toNat x5))) (getE TKey (.int .i64) (0 : Int) ((rdEl TKey x1 (Int.toNat x5))) x6) x6)))) (
                         lOne.l1  m x0 x1 x2 x3 x4 (IntKind.i64.wrap (x5 + (1 : Int))) (putE TKey (.int .i64) ((bornE TKey (.int .i64) (clockE TKey (.int .i64) x7 ((rdEl TKey x1 (Int.toNat x5))) x6) ((rdEl TKey x0 (Int.toNat x5))) (putE TKey (.int .i64) ((bornE TKey (.int .i64) x7 ((rdEl TKey x1 (Int.toNat x5))) x6) : Int) (IntKind.i64.wrap ((getE TKey (.int .i64) (0 : Int) ((rdEl TKey x1 (Int.toNat x5))) x6) + (1 : Int))) (setE TKey (.int .i64) x7 ((rdEl TKey x1 (Int.toNat x5))) (getE TKey (.int .i64) (0 : Int) ((rdEl TKey x1 (Int.toNat x5))) x6) x6))) : Int) (IntKind.i64.wrap ((getE TKey (.int .i64) (0 : Int) ((rdEl TKey x0 (Int.toNat x5))) (putE TKey (.int .i64) ((bornE TKey (.int .i64) x7 ((rdEl TKey x1 (Int.toNat x5))) x6) : Int) (IntKind.i64.wrap ((getE TKey (.int .i64) (0 : Int) ((rdEl TKey x1 (Int.toNat x5))) x6) + (1 : Int))) (setE TKey (.int .i64) x7 ((rdEl TKey x1 (Int.toNat x5))) (getE TKey (.int .i64) (0 : Int) ((rdEl TKey x1 (Int.toNat x5))) x6) x6))) - (1 : Int))) (setE TKey (.int .i64) (clockE TKey (.int .i64) x7 ((rdEl TKey x1 (Int.toNat x5))) x6) ((rdEl TKey x0 (Int.toNat x5))) (getE TKey (.int .i64) (0 : Int) ((rdEl TKey x0 (Int.toNat x5))) (putE TKey (.int .i64) ((bornE TKey (.int .i64) x7 ((rdEl TKey x1 (Int.toNat x5))) x6) : Int) (IntKind.i64.wrap ((getE TKey (.int .i64) (0 : Int) ((rdEl TKey x1 (Int.toNat x5))) x6) + (1 : Int))) (setE TKey (.int .i64) x7 ((rdEl TKey x1 (Int.toNat x5))) (getE TKey (.int .i64) (0 : Int) ((rdEl TKey x1 (Int.toNat x5))) x6) x6))) (putE TKey (.int .i64) ((bornE TKey (.int .i64) x7 ((rdEl TKey x1 (Int.toNat x5))) x6) : Int) (IntKind.i64.wrap ((getE TKey (.int .i64) (0 : Int) ((rdEl TKey x1 (Int.toNat x5))) x6) + (1 : Int))) (setE TKey (.int .i64) x7 ((rdEl TKey x1 (Int.toNat x5))) (getE TKey (.int .i64) (0 : Int) ((rdEl TKey x1 (Int.toNat x5))) x6) x6)))) (clockE TKey (.int .i64) (clockE TKey (.int .i64) x7 ((rdEl TKey x1 (Int.toNat x5))) x6) ((rdEl TKey x0 (Int.toNat x5))) (putE TKey (.int .i64) ((bornE TKey (.int .i64) x7 ((rdEl TKey x1 (Int.toNat x5))) x6) : Int) (IntKind.i64.wrap ((getE TKey (.int .i64) (0 : Int) ((rdEl TKey x1 (Int.toNat x5))) x6) + (1 : Int))) (setE TKey (.int .i64) x7 ((rdEl TKey x1 (Int.toNat x5))) (getE TKey (.int .i64) (0 : Int) ((rdEl TKey x1 (Int.toNat x5))) x6) x6))))))))))))))) (
              test (decide ((0 : Int) ≤ x5)) (
               test (decide (x5 < ((List.length x1) : Int))) (
                test (bornIn TKey (.int .i64) ((bornE TKey (.int .i64) x7 ((rdEl TKey x1 (Int.toNat x5))) x6) : Int) (setE TKey (.int .i64) x7 ((rdEl TKey x1 (Int.toNat x5))) (getE TKey (.int .i64) (0 : Int) ((rdEl TKey x1 (Int.toNat x5))) x6) x6)) (
                 test (decide ((0 : Int) ≤ x5)) (
                  test (decide (x5 < ((List.length x0) : Int))) (
                   test (bornIn TKey (.int .i64) ((bornE TKey (.int .i64) (clockE TKey (.int .i64) x7 ((rdEl TKey x1 (Int.toNat x5))) x6) ((rdEl TKey x0 (Int.toNat x5))) (putE TKey (.int .i64) ((bornE TKey (.int .i64) x7 ((rdEl TKey x1 (Int.toNat x5))) x6) : Int) (IntKind.i64.wrap ((getE TKey (.int .i64) (0 : Int) ((rdEl TKey x1 (Int.toNat x5))) x6) + (1 : Int))) (setE TKey (.int .i64) x7 ((rdEl TKey x1 (Int.toNat x5))) (getE TKey (.int .i64) (0 : Int) ((rdEl TKey x1 (Int.toNat x5))) x6) x6))) : Int) (setE TKey (.int .i64) (clockE TKey (.int .i64) x7 ((rdEl TKey x1 (Int.toNat x5))) x6) ((rdEl TKey x0 (Int.toNat x5))) (getE TKey (.int .i64) (0 : Int) ((rdEl TKey x0 (Int.toNat x5))) (putE TKey (.int .i64) ((bornE TKey (.int .i64) x7 ((rdEl TKey x1 (Int.toNat x5))) x6) : Int) (IntKind.i64.wrap ((getE TKey (.int .i64) (0 : Int) ((rdEl TKey x1 (Int.toNat x5))) x6) + (1 : Int))) (setE TKey (.int .i64) x7 ((rdEl TKey x1 (Int.toNat x5))) (getE TKey (.int .i64) (0 : Int) ((rdEl TKey x1 (Int.toNat x5))) x6) x6))) (putE TKey (.int .i64) ((bornE TKey (.int .i64) x7 ((rdEl TKey x1 (Int.toNat x5))) x6) : Int) (IntKind.i64.wrap ((getE TKey (.int .i64) (0 : Int) ((rdEl TKey x1 (Int.toNat x5))) x6) + (1 : Int))) (setE TKey (.int .i64) x7 ((rdEl TKey x1 (Int.toNat x5))) (getE TKey (.int .i64) (0 : Int) ((rdEl TKey x1 (Int.toNat x5))) x6) x6)))) (
                    lOne.l1  m x0 x1 x2 x3 x4 (IntKind.i64.wrap (x5 + (1 : Int))) (putE TKey (.int .i64) ((bornE TKey (.int .i64) (clockE TKey (.int .i64) x7 ((rdEl TKey x1 (Int.toNat x5))) x6) ((rdEl TKey x0 (Int.toNat x5))) (putE TKey (.int .i64) ((bornE TKey (.int .i64) x7 ((rdEl TKey x1 (Int.toNat x5))) x6) : Int) (IntKind.i64.wrap ((getE TKey (.int .i64) (0 : Int) ((rdEl TKey x1 (Int.toNat x5))) x6) + (1 : Int))) (setE TKey (.int .i64) x7 ((rdEl TKey x1 (Int.toNat x5))) (getE TKey (.int .i64) (0 : Int) ((rdEl TKey x1 (Int.toNat x5))) x6) x6))) : Int) (IntKind.i64.wrap ((getE TKey (.int .i64) (0 : Int) ((rdEl TKey x0 (Int.toNat x5))) (putE TKey (.int .i64) ((bornE TKey (.int .i64) x7 ((rdEl TKey x1 (Int.toNat x5))) x6) : Int) (IntKind.i64.wrap ((getE TKey (.int .i64) (0 : Int) ((rdEl TKey x1 (Int.toNat x5))) x6) + (1 : Int))) (setE TKey (.int .i64) x7 ((rdEl TKey x1 (Int.toNat x5))) (getE TKey (.int .i64) (0 : Int) ((rdEl TKey x1 (Int.toNat x5))) x6) x6))) - (1 : Int))) (setE TKey (.int .i64) (clockE TKey (.int .i64) x7 ((rdEl TKey x1 (Int.toNat x5))) x6) ((rdEl TKey x0 (Int.toNat x5))) (getE TKey (.int .i64) (0 : Int) ((rdEl TKey x0 (Int.toNat x5))) (putE TKey (.int .i64) ((bornE TKey (.int .i64) x7 ((rdEl TKey x1 (Int.toNat x5))) x6) : Int) (IntKind.i64.wrap ((getE TKey (.int .i64) (0 : Int) ((rdEl TKey x1 (Int.toNat x5))) x6) + (1 : Int))) (setE TKey (.int .i64) x7 ((rdEl TKey x1 (Int.toNat x5))) (getE TKey (.int .i64) (0 : Int) ((rdEl TKey x1 (Int.toNat x5))) x6) x6))) (putE TKey (.int .i64) ((bornE TKey (.int .i64) x7 ((rdEl TKey x1 (Int.toNat x5))) x6) : Int) (IntKind.i64.wrap ((getE TKey (.int .i64) (0 : Int) ((rdEl TKey x1 (Int.toNat x5))) x6) + (1 : Int))) (setE TKey (.int .i64) x7 ((rdEl TKey x1 (Int.toNat x5))) (getE TKey (.int .i64) (0 : Int) ((rdEl TKey x1 (Int.toNat x5))) x6) x6)))) (clockE TKey (.int .i64) (clockE TKey (.int .i64) x7 ((rdEl TKey x1 (Int.toNat x5))) x6) ((rdEl TKey x0 (Int.toNat x5))) (putE TKey (.int .i64) ((bornE TKey (.int .i64) x7 ((rdEl TKey x1 (Int.toNat x5))) x6) : Int) (IntKind.i64.wrap ((getE TKey (.int .i64) (0 : Int) ((rdEl TKey x1 (Int.toNat x5))) x6) + (1 : Int))) (setE TKey (.int .i64) x7 ((rdEl TKey x1 (Int.toNat x5))) (getE TKey (.int .i64) (0 : Int) ((rdEl TKey x1 (Int.toNat x5))) x6) x6))))))))))))))))))))) (
   lOne.l2  m x0 ((List.length x0) : Int) (0 : Int) x6 x7) := by kernel_rfl
theorem lOne.s2  (m : Nat) (x0 : List (El TKey)) (x1 : Int) (x2 : Int) (x3 : List ((El TKey) × Int × Nat)) (x4 : Nat) : lOne.l2  (m + 1) x0 x1 x2 x3 x4 =
  cond (decide (x2 < x1)) (
   test (decide ((0 : Int) ≤ x2)) (
    test (decide (x2 < ((List.length x0) : Int))) (
     cond (bne (getE TKey (.int .i64) (0 : Int) ((rdEl TKey x0 (Int.toNat x2))) x3) (0 : Int)) (
      some ((.c (.v (.bool false))), [])) (
      lOne.l2  m x0 x1 (IntKind.i64.wrap (x2 + (1 : Int))) x3 x4)))) (
   some ((.c (.v (.bool true))), [])) := by kernel_rfl
theorem lOne.run_eq  (m : Nat) (x0 : (List (El TKey))) (x1 : Int) : run (lOne.cfg ) Try.f4.ntmps Try.f4.results.toList m [.code (bodyOf Try.f4)] (enter (ivA lOne.ps (x0, x1, ()))) = lOne.go  m x0 x1 := by kernel_rfl
theorem lOne.ret  (hs : SpecsOK Try.prog (lOne.specs ))  (x0 : (List (El TKey))) (x1 : Int) {m : Nat} {r : IV} (h : lOne.go  m x0 x1 = some (r, [])) : VE.Returns Try.prog 4 (ivA lOne.ps (x0, x1, ())) r :=
  returns_of_run (cfg := lOne.cfg ) (cfgOK_of mixed tab_ok hs .nil) rfl Try.func4 (body_some (by kernel_rfl)) (Nat.le_of_ble_eq_true (by kernel_rfl)) ((lOne.run_eq  m x0 x1).trans h)
abbrev lOne.Law : Prop := ∀ (x0 : (List (El TKey))) (x1 : Int), lOne.pre (x0, x1, ()) = true → VE.Returns Try.prog 4 (ivA lOne.ps (x0, x1, ())) (lOne.res (x0, x1, ()))
theorem lOne.mkR (H : ∀ (x0 : (List (El TKey))) (x1 : Int), lOne.pre (x0, x1, ()) = true → VE.Returns Try.prog 4 (ivA lOne.ps (x0, x1, ())) (lOne.res (x0, x1, ()))) : SpecOK Try.prog 4 lOne.sp :=
  specOf_ret Try.func4 (by kernel_rfl) (by kernel_rfl) fun (x : (List (El TKey)) × Int × Unit) hx => H (x.1) (x.2.1) hx
theorem lOne.mk  (hs : SpecsOK Try.prog (lOne.specs ))  (H : ∀ (x0 : (List (El TKey))) (x1 : Int), lOne.pre (x0, x1, ()) = true → ∃ m, lOne.go  m x0 x1 = some (lOne.res (x0, x1, ()), [])) : SpecOK Try.prog 4 lOne.sp :=
  lOne.mkR fun x0 x1 hx => (H x0 x1 hx).elim fun _ hm => lOne.ret  hs  x0 x1 hm

end Go.Proofs.Ytlaifjifgoadkaa
