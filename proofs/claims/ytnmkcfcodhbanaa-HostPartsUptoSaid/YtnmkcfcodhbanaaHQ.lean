/-
  Steps of the bodies, from checkpoint to checkpoint (printed by wip/VE/mk2.py).
-/
import Derived.Test.YtnmkcfcodhbanaaHG
namespace Go.Proofs.Ytnmkcfcodhbanaa
open Go VE

/-! ### triage/triagelaw7.HostParts -/
abbrev lParts.ps : List AK := [.d true THost, .d false (.sl TPair), .d false (.sl TPair)]
def lParts.pre : ElA lParts.ps → Bool := fun (x : (El THost) × (List (El TPair)) × (List (El TPair)) × Unit) => fits THost (x.1) && (fits (.sl TPair) (x.2.1) && (fits (.sl TPair) (x.2.2.1) && ((fun _ l m => decide (List.length l ≤ 1073741824) && decide (List.length m ≤ 1073741824)) x.1 x.2.1 x.2.2.1 && (true))))
def lParts.res : ElA lParts.ps → IV := fun (x : (El THost) × (List (El TPair)) × (List (El TPair)) × Unit) => (fun _ _ _ => vb true) x.1 x.2.1 x.2.2.1
def lParts.sp : ISpec := spOf lParts.ps lParts.pre lParts.res
abbrev lParts.OK : Prop := SpecOK Try.prog 4 lParts.sp
noncomputable def lParts.body : Code := bodyOf Try.f4
noncomputable def lParts.rs : List ResultVar := Try.f4.results.toList
def lParts.live : List (Nat × Live) := [(7, ⟨[(1, .sl TPair), (3, .plain), (51, .sl TPair), (52, .plain), (53, .plain)], [(1, [])]⟩)]
noncomputable def lParts.specs  : List (Nat × (List Bool × ISpec)) := [(8, ([], light.sp)), (9, ([], awake.sp)), (14, ([], has.sp))]
noncomputable def lParts.cfg  : Cfg := ⟨lkp tab, lkp (lParts.specs ), lkp lParts.live⟩
noncomputable def lParts.l1  (m : Nat) (x0 : List (El TPair)) (x1 : List (El TPair)) (x2 : Int) (x3 : Int) (x4 : Int) (x5 : ByteArray) (x6 : Int) (x7 : ByteArray) (x8 : Int) (x9 : List (El TPair)) : R := run (lParts.cfg ) 69 lParts.rs m ((todoR 7 lParts.body []).getD []) ⟨ofList (.c .junk) [(1, (.c (.sl TPair x0))), (3, (.c (.ref 1 0))), (51, (.c (.sl TPair x1))), (52, (.c (.v (.int .i64 x2)))), (53, (.c (.v (.int .i64 x3))))], ofList none [(1, some (.cells 24 [(.v (.int .i64 x4)), (.v (.string x5)), (.v (.int .i64 x6)), (.v (.string x7)), (.v (.int .i64 x8)), (.sl TPair x9)]))], ofList false [(1, true)]⟩
noncomputable def lParts.go  (m : Nat) (x0 : (El THost)) (x1 : (List (El TPair))) (x2 : (List (El TPair))) : R := run (lParts.cfg ) 69 lParts.rs m [.code lParts.body] (enter (ivA lParts.ps (x0, x1, x2, ())))
theorem lParts.start  (m : Nat) (x0 : (El THost)) (x1 : (List (El TPair))) (x2 : (List (El TPair))) : lParts.go  (m + 1) x0 x1 x2 =
  test (light.pre (x0, Unit.unit)) (
   test (light.pre (((0 : Int), ((⟨#[]⟩ : ByteArray), ((0 : Int), ((⟨#[]⟩ : ByteArray), ((0 : Int), x1))))), Unit.unit)) (
    test (light.pre (((0 : Int), ((⟨#[]⟩ : ByteArray), ((0 : Int), ((⟨#[]⟩ : ByteArray), ((0 : Int), x2))))), Unit.unit)) (
     cond (decide ((IntKind.i64.wrap ((IntKind.i64.wrap ((lightI x0) + (lightI ((0 : Int), ((⟨#[]⟩ : ByteArray), ((0 : Int), ((⟨#[]⟩ : ByteArray), ((0 : Int), x1)))))))) + (lightI ((0 : Int), ((⟨#[]⟩ : ByteArray), ((0 : Int), ((⟨#[]⟩ : ByteArray), ((0 : Int), x2)))))))) > (0 : Int))) (
      some ((.c (.v (.bool true))), [])) (
      test (decide (((List.length ([] : List (El TPair))) + (List.length x1)) ≤ (lim 32))) (
       test (decide (((List.length (([] : List (El TPair)) ++ x1)) + (List.length x2)) ≤ (lim 32))) (
        test (has.pre (x0, (((([] : List (El TPair)) ++ x1) ++ x2), Unit.unit))) (
         test (has.pre (x0, (x1, Unit.unit))) (
          cond (hasB x0 x1) (
           test (has.pre (x0, (x2, Unit.unit))) (
            cond (Bool.not ((hasB x0 ((([] : List (El TPair)) ++ x1) ++ x2)) == (hasB x0 x2))) (
             some ((.c (.v (.bool false))), [])) (
             test (has.pre (x0, (x0.2.2.2.2.2, Unit.unit))) (
              cond (Bool.not (hasB x0 x0.2.2.2.2.2)) (
               some ((.c (.v (.bool false))), [])) (
               test (has.pre (x0, (([] : List (El TPair)), Unit.unit))) (
                lParts.l1  m x1 x1 ((List.length x1) : Int) (0 : Int) x0.1 x0.2.1 x0.2.2.1 x0.2.2.2.1 x0.2.2.2.2.1 x0.2.2.2.2.2)))))) (
           cond (Bool.not ((hasB x0 ((([] : List (El TPair)) ++ x1) ++ x2)) == false)) (
            some ((.c (.v (.bool false))), [])) (
            test (has.pre (x0, (x0.2.2.2.2.2, Unit.unit))) (
             cond (Bool.not (hasB x0 x0.2.2.2.2.2)) (
              some ((.c (.v (.bool false))), [])) (
              test (has.pre (x0, (([] : List (El TPair)), Unit.unit))) (
               lParts.l1  m x1 x1 ((List.length x1) : Int) (0 : Int) x0.1 x0.2.1 x0.2.2.1 x0.2.2.2.1 x0.2.2.2.2.1 x0.2.2.2.2.2))))))))))))) := by kernel_rfl
theorem lParts.s1  (m : Nat) (x0 : List (El TPair)) (x1 : List (El TPair)) (x2 : Int) (x3 : Int) (x4 : Int) (x5 : ByteArray) (x6 : Int) (x7 : ByteArray) (x8 : Int) (x9 : List (El TPair)) : lParts.l1  (m + 1) x0 x1 x2 x3 x4 x5 x6 x7 x8 x9 =
  cond (decide (x3 < x2)) (
   test (decide ((0 : Int) ≤ x3)) (
    test (decide (x3 < ((List.length x1) : Int))) (
     test (has.pre ((x4, (x5, (x6, (x7, (x8, x9))))), (x0, Unit.unit))) (
      cond (hasB (x4, (x5, (x6, (x7, (x8, x9))))) x0) (
       test (has.pre ((x4, (x5, (x6, (x7, (x8, x9))))), ((((rdEl TPair x1 (Int.toNat x3))) :: ([] : List (El TPair))), Unit.unit))) (
        cond (Bool.not (hasB (x4, (x5, (x6, (x7, (x8, x9))))) (((rdEl TPair x1 (Int.toNat x3))) :: ([] : List (El TPair))))) (
         some ((.c (.v (.bool false))), [])) (
         lParts.l1  m x0 x1 x2 (IntKind.i64.wrap (x3 + (1 : Int))) x4 x5 x6 x7 x8 x9))) (
       lParts.l1  m x0 x1 x2 (IntKind.i64.wrap (x3 + (1 : Int))) x4 x5 x6 x7 x8 x9))))) (
   some ((.c (.v (.bool true))), [])) := by kernel_rfl
theorem lParts.run_eq  (m : Nat) (x0 : (El THost)) (x1 : (List (El TPair))) (x2 : (List (El TPair))) : run (lParts.cfg ) Try.f4.ntmps Try.f4.results.toList m [.code (bodyOf Try.f4)] (enter (ivA lParts.ps (x0, x1, x2, ()))) = lParts.go  m x0 x1 x2 := by kernel_rfl
theorem lParts.ret  (hs : SpecsOK Try.prog (lParts.specs )) (x0 : (El THost)) (x1 : (List (El TPair))) (x2 : (List (El TPair))) {m : Nat} {r : IV} (h : lParts.go  m x0 x1 x2 = some (r, [])) : VE.Returns Try.prog 4 (ivA lParts.ps (x0, x1, x2, ())) r :=
  returns_of_run (cfg := lParts.cfg ) (cfgOK_of mixed tab_ok hs) Try.func4 (body_some (by kernel_rfl)) (Nat.le_of_ble_eq_true (by kernel_rfl)) ((lParts.run_eq  m x0 x1 x2).trans h)
abbrev lParts.Law : Prop := ∀ (x0 : (El THost)) (x1 : (List (El TPair))) (x2 : (List (El TPair))), lParts.pre (x0, x1, x2, ()) = true → VE.Returns Try.prog 4 (ivA lParts.ps (x0, x1, x2, ())) (lParts.res (x0, x1, x2, ()))
theorem lParts.mkR (H : ∀ (x0 : (El THost)) (x1 : (List (El TPair))) (x2 : (List (El TPair))), lParts.pre (x0, x1, x2, ()) = true → VE.Returns Try.prog 4 (ivA lParts.ps (x0, x1, x2, ())) (lParts.res (x0, x1, x2, ()))) : SpecOK Try.prog 4 lParts.sp :=
  specOf_ret Try.func4 (by kernel_rfl) (by kernel_rfl) fun (x : (El THost) × (List (El TPair)) × (List (El TPair)) × Unit) hx => H (x.1) (x.2.1) (x.2.2.1) hx
theorem lParts.mk  (hs : SpecsOK Try.prog (lParts.specs )) (H : ∀ (x0 : (El THost)) (x1 : (List (El TPair))) (x2 : (List (El TPair))), lParts.pre (x0, x1, x2, ()) = true → ∃ m, lParts.go  m x0 x1 x2 = some (lParts.res (x0, x1, x2, ()), [])) : SpecOK Try.prog 4 lParts.sp :=
  lParts.mkR fun x0 x1 x2 hx => (H x0 x1 x2 hx).elim fun _ hm => lParts.ret  hs x0 x1 x2 hm

end Go.Proofs.Ytnmkcfcodhbanaa
