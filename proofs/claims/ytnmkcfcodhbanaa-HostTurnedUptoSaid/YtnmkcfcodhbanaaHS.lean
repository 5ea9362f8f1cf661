/-
  Steps of the bodies, from checkpoint to checkpoint (printed by wip/VE/mk2.py).
-/
import Derived.Test.YtnmkcfcodhbanaaHG
namespace Go.Proofs.Ytnmkcfcodhbanaa
open Go VE

/-! ### slices.Clone(()triage/api.Pair,triage/api.Pair) -/
abbrev cloneO.ps : List AK := [.d false (.sl TPair)]
def cloneO.pre : ElA cloneO.ps → Bool := fun (x : (List (El TPair)) × Unit) => fits (.sl TPair) (x.1) && (true)
def cloneO.rv : ElA cloneO.ps → List RV := fun (x : (List (El TPair)) × Unit) => [.m 34 TPair ((fun l => l) x.1)]
def cloneO.res : ElA cloneO.ps → IV := fun x => oneOrTup (rvIVs 0 (cloneO.rv x))
def cloneO.back : ElA cloneO.ps → List (Nat × Box) := fun (x : (List (El TPair)) × Unit) => rvBxs 0 (cloneO.rv x)
def cloneO.sp : OSpec := spO cloneO.ps cloneO.pre cloneO.res cloneO.back
abbrev cloneO.OK : Prop := SpecOKO Try.prog 27 cloneO.sp
theorem cloneO.mkR (H : ∀ (x0 : (List (El TPair))), cloneO.pre (x0, ()) = true → VE.ReturnsO Try.prog 27 (ivAO 0 cloneO.ps (x0, ())) (bxAO 0 cloneO.ps (x0, ())) (cloneO.res (x0, ())) (cloneO.back (x0, ()))) : SpecOKO Try.prog 27 cloneO.sp :=
  specO_ret Try.func27 (by kernel_rfl) (by kernel_rfl) fun (x : (List (El TPair)) × Unit) hx => H (x.1) hx

/-! ### slices.Clone(()triage/api.Pair,triage/api.Pair) -/
noncomputable def cloneON.body : Code := bodyOf Try.f27
noncomputable def cloneON.rs : List ResultVar := Try.f27.results.toList
def cloneON.live : List (Nat × Live) := []
noncomputable def cloneON.specs  : List (Nat × (List Bool × ISpec)) := []
noncomputable def cloneON.ospecs  : List (Nat × OS) := []
noncomputable def cloneON.cfg  : Cfg := ⟨lkp tab, lkp (cloneON.specs ), lkp cloneON.live, ⟨lkp (cloneON.ospecs ), [], some ([.arr 34 TPair], []), false⟩⟩
noncomputable def cloneON.go  (m : Nat)  : R := run (cloneON.cfg ) 8 cloneON.rs m [.code cloneON.body] (enterO [.c (.v (.slice none 0 0))] [])
theorem cloneON.start  (m : Nat)  : cloneON.go  (m + 1)  =
  some ((.c (.sref 115326)), [(115326, (.arr 34 TPair ([] : List (El TPair)) false))]) := by kernel_rfl
theorem cloneON.run_eq  (m : Nat)  : run (cloneON.cfg ) Try.f27.ntmps Try.f27.results.toList m [.code (bodyOf Try.f27)] (enterO [.c (.v (.slice none 0 0))] []) = cloneON.go  m  := by kernel_rfl
theorem cloneON.ret  (hs : SpecsOK Try.prog (cloneON.specs ))   {m : Nat} {r : IV} {b : List (Nat × Box)} (h : cloneON.go  m  = some (r, b)) : VE.ReturnsO Try.prog 27 [.c (.v (.slice none 0 0))] [] r b :=
  returnsO_of_run (cfg := cloneON.cfg ) (cfgOK_of mixed tab_ok hs .nil) rfl Try.func27 (body_some (by kernel_rfl)) (Nat.le_of_ble_eq_true (by kernel_rfl)) (fun _ _ _ h => by cases h) ((cloneON.run_eq  m ).trans h)

/-! ### slices.Clone(()triage/api.Pair,triage/api.Pair) -/
noncomputable def cloneOE.body : Code := bodyOf Try.f27
noncomputable def cloneOE.rs : List ResultVar := Try.f27.results.toList
def cloneOE.live : List (Nat × Live) := []
noncomputable def cloneOE.specs  : List (Nat × (List Bool × ISpec)) := []
noncomputable def cloneOE.ospecs  : List (Nat × OS) := []
noncomputable def cloneOE.cfg  : Cfg := ⟨lkp tab, lkp (cloneOE.specs ), lkp cloneOE.live, ⟨lkp (cloneOE.ospecs ), [], some ([.arr 34 TPair], []), false⟩⟩
noncomputable def cloneOE.go  (m : Nat)  : R := run (cloneOE.cfg ) 8 cloneOE.rs m [.code cloneOE.body] (enterO [.c .emp] [])
theorem cloneOE.start  (m : Nat)  : cloneOE.go  (m + 1)  =
  some ((.c (.sref 115326)), [(115326, (.arr 34 TPair (([] : List (El TPair)) ++ ([] : List (El TPair))) false))]) := by kernel_rfl
theorem cloneOE.run_eq  (m : Nat)  : run (cloneOE.cfg ) Try.f27.ntmps Try.f27.results.toList m [.code (bodyOf Try.f27)] (enterO [.c .emp] []) = cloneOE.go  m  := by kernel_rfl
theorem cloneOE.ret  (hs : SpecsOK Try.prog (cloneOE.specs ))   {m : Nat} {r : IV} {b : List (Nat × Box)} (h : cloneOE.go  m  = some (r, b)) : VE.ReturnsO Try.prog 27 [.c .emp] [] r b :=
  returnsO_of_run (cfg := cloneOE.cfg ) (cfgOK_of mixed tab_ok hs .nil) rfl Try.func27 (body_some (by kernel_rfl)) (Nat.le_of_ble_eq_true (by kernel_rfl)) (fun _ _ _ h => by cases h) ((cloneOE.run_eq  m ).trans h)

/-! ### slices.Clone(()triage/api.Pair,triage/api.Pair) -/
noncomputable def cloneOC.body : Code := bodyOf Try.f27
noncomputable def cloneOC.rs : List ResultVar := Try.f27.results.toList
def cloneOC.live : List (Nat × Live) := []
noncomputable def cloneOC.specs  : List (Nat × (List Bool × ISpec)) := []
noncomputable def cloneOC.ospecs  : List (Nat × OS) := []
noncomputable def cloneOC.cfg  : Cfg := ⟨lkp tab, lkp (cloneOC.specs ), lkp cloneOC.live, ⟨lkp (cloneOC.ospecs ), [], some ([.arr 34 TPair], []), false⟩⟩
noncomputable def cloneOC.go  (m : Nat) (x0 : (El TPair)) (x1 : (List (El TPair))) : R := run (cloneOC.cfg ) 8 cloneOC.rs m [.code cloneOC.body] (enterO [.c (.sl TPair (x0 :: x1))] [])
theorem cloneOC.start  (m : Nat) (x0 : (El TPair)) (x1 : (List (El TPair))) : cloneOC.go  (m + 1) x0 x1 =
  test (decide (((List.length ([] : List (El TPair))) + (List.length (x0 :: x1))) ≤ (lim 32))) (
   some ((.c (.sref 115326)), [(115326, (.arr 34 TPair (([] : List (El TPair)) ++ (x0 :: x1)) false))])) := by kernel_rfl
theorem cloneOC.run_eq  (m : Nat) (x0 : (El TPair)) (x1 : (List (El TPair))) : run (cloneOC.cfg ) Try.f27.ntmps Try.f27.results.toList m [.code (bodyOf Try.f27)] (enterO [.c (.sl TPair (x0 :: x1))] []) = cloneOC.go  m x0 x1 := by kernel_rfl
theorem cloneOC.ret  (hs : SpecsOK Try.prog (cloneOC.specs ))  (x0 : (El TPair)) (x1 : (List (El TPair))) {m : Nat} {r : IV} {b : List (Nat × Box)} (h : cloneOC.go  m x0 x1 = some (r, b)) : VE.ReturnsO Try.prog 27 [.c (.sl TPair (x0 :: x1))] [] r b :=
  returnsO_of_run (cfg := cloneOC.cfg ) (cfgOK_of mixed tab_ok hs .nil) rfl Try.func27 (body_some (by kernel_rfl)) (Nat.le_of_ble_eq_true (by kernel_rfl)) (fun _ _ _ h => by cases h) ((cloneOC.run_eq  m x0 x1).trans h)

/-! ### triage/host.Copy -/
abbrev copyO.ps : List AK := [.d true THost]
def copyO.pre : ElA copyO.ps → Bool := fun (x : (El THost) × Unit) => fits THost (x.1) && (true)
def copyO.rv : ElA copyO.ps → List RV := fun (x : (El THost) × Unit) => [.a THost [none, none, none, none, none, some 34] ((fun h => h) x.1)]
def copyO.res : ElA copyO.ps → IV := fun x => oneOrTup (rvIVs 0 (copyO.rv x))
def copyO.back : ElA copyO.ps → List (Nat × Box) := fun (x : (El THost) × Unit) => rvBxs 0 (copyO.rv x)
def copyO.sp : OSpec := spO copyO.ps copyO.pre copyO.res copyO.back
abbrev copyO.OK : Prop := SpecOKO Try.prog 18 copyO.sp
noncomputable def copyO.body : Code := bodyOf Try.f18
noncomputable def copyO.rs : List ResultVar := Try.f18.results.toList
def copyO.live : List (Nat × Live) := []
noncomputable def copyO.specs  : List (Nat × (List Bool × ISpec)) := []
noncomputable def copyO.ospecs  : List (Nat × OS) := [(27, ⟨[], [], cloneO.sp⟩)]
noncomputable def copyO.cfg  : Cfg := ⟨lkp tab, lkp (copyO.specs ), lkp copyO.live, ⟨lkp (copyO.ospecs ), oids 0 copyO.ps, some ([.agg [.plain, .plain, .plain, .plain, .plain, .arr 34 TPair]], []), false⟩⟩
noncomputable def copyO.go  (m : Nat) (x0 : (El THost)) : R := run (copyO.cfg ) 8 copyO.rs m [.code copyO.body] (enterO (ivAO 0 copyO.ps (x0, ())) (bxAO 0 copyO.ps (x0, ())))
theorem copyO.start  (m : Nat) (x0 : (El THost)) : copyO.go  (m + 1) x0 =
  test (cloneO.pre (x0.2.2.2.2.2, Unit.unit)) (
   some ((.agg [(.v (.int .i64 x0.1)), (.v (.string x0.2.1)), (.v (.int .i64 x0.2.2.1)), (.v (.string x0.2.2.2.1)), (.v (.int .i64 x0.2.2.2.2.1)), (.sref 14889738)]), [(14889738, (.arr 34 TPair x0.2.2.2.2.2 false))])) := by kernel_rfl
theorem copyO.run_eq  (m : Nat) (x0 : (El THost)) : run (copyO.cfg ) Try.f18.ntmps Try.f18.results.toList m [.code (bodyOf Try.f18)] (enterO (ivAO 0 copyO.ps (x0, ())) (bxAO 0 copyO.ps (x0, ()))) = copyO.go  m x0 := by kernel_rfl
theorem copyO.ret  (hs : SpecsOK Try.prog (copyO.specs )) (ho : OSpecsOK Try.prog (copyO.ospecs )) (x0 : (El THost)) {m : Nat} {r : IV} {b : List (Nat × Box)} (h : copyO.go  m x0 = some (r, b)) : VE.ReturnsO Try.prog 18 (ivAO 0 copyO.ps (x0, ())) (bxAO 0 copyO.ps (x0, ())) r b :=
  returnsO_of_run (cfg := copyO.cfg ) (cfgOK_of mixed tab_ok hs ho) rfl Try.func18 (body_some (by kernel_rfl)) (Nat.le_of_ble_eq_true (by kernel_rfl)) (fun _ _ _ h => oids_mem h) ((copyO.run_eq  m x0).trans h)
abbrev copyO.Law : Prop := ∀ (x0 : (El THost)), copyO.pre (x0, ()) = true → VE.ReturnsO Try.prog 18 (ivAO 0 copyO.ps (x0, ())) (bxAO 0 copyO.ps (x0, ())) (copyO.res (x0, ())) (copyO.back (x0, ()))
theorem copyO.mkR (H : ∀ (x0 : (El THost)), copyO.pre (x0, ()) = true → VE.ReturnsO Try.prog 18 (ivAO 0 copyO.ps (x0, ())) (bxAO 0 copyO.ps (x0, ())) (copyO.res (x0, ())) (copyO.back (x0, ()))) : SpecOKO Try.prog 18 copyO.sp :=
  specO_ret Try.func18 (by kernel_rfl) (by kernel_rfl) fun (x : (El THost) × Unit) hx => H (x.1) hx
theorem copyO.mk  (hs : SpecsOK Try.prog (copyO.specs )) (ho : OSpecsOK Try.prog (copyO.ospecs )) (H : ∀ (x0 : (El THost)), copyO.pre (x0, ()) = true → ∃ m, copyO.go  m x0 = some (copyO.res (x0, ()), copyO.back (x0, ()))) : SpecOKO Try.prog 18 copyO.sp :=
  copyO.mkR fun x0 hx => (H x0 hx).elim fun _ hm => copyO.ret  hs ho x0 hm

/-! ### triage/triageref1.CopyHost -/
abbrev copyRO.ps : List AK := [.d true THost]
def copyRO.pre : ElA copyRO.ps → Bool := fun (x : (El THost) × Unit) => fits THost (x.1) && (true)
def copyRO.rv : ElA copyRO.ps → List RV := fun (x : (El THost) × Unit) => [.a THost [none, none, none, none, none, some 34] ((fun h => h) x.1)]
def copyRO.res : ElA copyRO.ps → IV := fun x => oneOrTup (rvIVs 0 (copyRO.rv x))
def copyRO.back : ElA copyRO.ps → List (Nat × Box) := fun (x : (El THost) × Unit) => rvBxs 0 (copyRO.rv x)
def copyRO.sp : OSpec := spO copyRO.ps copyRO.pre copyRO.res copyRO.back
abbrev copyRO.OK : Prop := SpecOKO Try.prog 19 copyRO.sp
noncomputable def copyRO.body : Code := bodyOf Try.f19
noncomputable def copyRO.rs : List ResultVar := Try.f19.results.toList
def copyRO.live : List (Nat × Live) := []
noncomputable def copyRO.specs  : List (Nat × (List Bool × ISpec)) := []
noncomputable def copyRO.ospecs  : List (Nat × OS) := []
noncomputable def copyRO.cfg  : Cfg := ⟨lkp tab, lkp (copyRO.specs ), lkp copyRO.live, ⟨lkp (copyRO.ospecs ), oids 0 copyRO.ps, some ([.agg [.plain, .plain, .plain, .plain, .plain, .arr 34 TPair]], []), false⟩⟩
noncomputable def copyRO.go  (m : Nat) (x0 : (El THost)) : R := run (copyRO.cfg ) 8 copyRO.rs m [.code copyRO.body] (enterO (ivAO 0 copyRO.ps (x0, ())) (bxAO 0 copyRO.ps (x0, ())))
theorem copyRO.start  (m : Nat) (x0 : (El THost)) : copyRO.go  (m + 1) x0 =
  test (decide ((List.length x0.2.2.2.2.2) ≤ (lim 32))) (
   some ((.agg [(.v (.int .i64 x0.1)), (.v (.string x0.2.1)), (.v (.int .i64 x0.2.2.1)), (.v (.string x0.2.2.2.1)), (.v (.int .i64 x0.2.2.2.2.1)), (.sref 14889738)]), [(14889738, (.arr 34 TPair x0.2.2.2.2.2 false))])) := by kernel_rfl
theorem copyRO.run_eq  (m : Nat) (x0 : (El THost)) : run (copyRO.cfg ) Try.f19.ntmps Try.f19.results.toList m [.code (bodyOf Try.f19)] (enterO (ivAO 0 copyRO.ps (x0, ())) (bxAO 0 copyRO.ps (x0, ()))) = copyRO.go  m x0 := by kernel_rfl
theorem copyRO.ret  (hs : SpecsOK Try.prog (copyRO.specs ))  (x0 : (El THost)) {m : Nat} {r : IV} {b : List (Nat × Box)} (h : copyRO.go  m x0 = some (r, b)) : VE.ReturnsO Try.prog 19 (ivAO 0 copyRO.ps (x0, ())) (bxAO 0 copyRO.ps (x0, ())) r b :=
  returnsO_of_run (cfg := copyRO.cfg ) (cfgOK_of mixed tab_ok hs .nil) rfl Try.func19 (body_some (by kernel_rfl)) (Nat.le_of_ble_eq_true (by kernel_rfl)) (fun _ _ _ h => oids_mem h) ((copyRO.run_eq  m x0).trans h)
abbrev copyRO.Law : Prop := ∀ (x0 : (El THost)), copyRO.pre (x0, ()) = true → VE.ReturnsO Try.prog 19 (ivAO 0 copyRO.ps (x0, ())) (bxAO 0 copyRO.ps (x0, ())) (copyRO.res (x0, ())) (copyRO.back (x0, ()))
theorem copyRO.mkR (H : ∀ (x0 : (El THost)), copyRO.pre (x0, ()) = true → VE.ReturnsO Try.prog 19 (ivAO 0 copyRO.ps (x0, ())) (bxAO 0 copyRO.ps (x0, ())) (copyRO.res (x0, ())) (copyRO.back (x0, ()))) : SpecOKO Try.prog 19 copyRO.sp :=
  specO_ret Try.func19 (by kernel_rfl) (by kernel_rfl) fun (x : (El THost) × Unit) hx => H (x.1) hx
theorem copyRO.mk  (hs : SpecsOK Try.prog (copyRO.specs ))  (H : ∀ (x0 : (El THost)), copyRO.pre (x0, ()) = true → ∃ m, copyRO.go  m x0 = some (copyRO.res (x0, ()), copyRO.back (x0, ()))) : SpecOKO Try.prog 19 copyRO.sp :=
  copyRO.mkR fun x0 hx => (H x0 hx).elim fun _ hm => copyRO.ret  hs  x0 hm

/-! ### triage/triagelaw7.HostCopies -/
abbrev lCopies.ps : List AK := [.d true THost, .d false .str]
def lCopies.pre : ElA lCopies.ps → Bool := fun (x : (El THost) × ByteArray × Unit) => fits THost (x.1) && (fits .str (x.2.1) && (true))
def lCopies.res : ElA lCopies.ps → IV := fun (x : (El THost) × ByteArray × Unit) => (fun _ _ => vb true) x.1 x.2.1
def lCopies.sp : ISpec := spOf lCopies.ps lCopies.pre lCopies.res
abbrev lCopies.OK : Prop := SpecOK Try.prog 5 lCopies.sp
noncomputable def lCopies.body : Code := bodyOf Try.f5
noncomputable def lCopies.rs : List ResultVar := Try.f5.results.toList
def lCopies.live : List (Nat × Live) := [(6, ⟨[(1, .plain), (2, .plain), (5, .plain), (6, .plain), (23, .plain), (24, .plain)], [(1, [.plain, .plain, .plain, .plain, .plain, .sl TPair]), (1541, [.plain, .plain, .plain, .plain, .plain, .sl TPair]), (2053, [.plain, .plain, .plain, .plain, .plain, .arr 34 TPair])]⟩)]
noncomputable def lCopies.specs  : List (Nat × (List Bool × ISpec)) := [(8, ([], light.sp)), (9, ([], awake.sp)), (19, ([], copyR.sp)), (13, ([], sameR.sp))]
noncomputable def lCopies.ospecs  : List (Nat × OS) := [(18, ⟨[], [], copyO.sp⟩)]
noncomputable def lCopies.cfg  : Cfg := ⟨lkp tab, lkp (lCopies.specs ), lkp lCopies.live, ⟨lkp (lCopies.ospecs ), [], none, false⟩⟩
noncomputable def lCopies.l1  (m : Nat) (x0 : ByteArray) (x1 : Int) (x2 : Int) (x3 : Int) (x4 : ByteArray) (x5 : Int) (x6 : ByteArray) (x7 : Int) (x8 : List (El TPair)) (x9 : Int) (x10 : ByteArray) (x11 : Int) (x12 : ByteArray) (x13 : Int) (x14 : List (El TPair)) (x15 : Int) (x16 : ByteArray) (x17 : Int) (x18 : ByteArray) (x19 : Int) (x20 : List (El TPair)) : R := run (lCopies.cfg ) 41 lCopies.rs m ((todoR 6 lCopies.body []).getD []) ⟨ofList (.c .junk) [(1, (.c (.v (.string x0)))), (2, (.c (.ref 1 0))), (5, (.c (.ref 1541 0))), (6, (.c (.ref 2053 0))), (23, (.c (.v (.int .i64 x1)))), (24, (.c (.v (.int .i64 x2))))], ofList none [(1, some (.cells 24 [(.v (.int .i64 x3)), (.v (.string x4)), (.v (.int .i64 x5)), (.v (.string x6)), (.v (.int .i64 x7)), (.sl TPair x8)])), (1541, some (.cells 24 [(.v (.int .i64 x9)), (.v (.string x10)), (.v (.int .i64 x11)), (.v (.string x12)), (.v (.int .i64 x13)), (.sl TPair x14)])), (2053, some (.cells 24 [(.v (.int .i64 x15)), (.v (.string x16)), (.v (.int .i64 x17)), (.v (.string x18)), (.v (.int .i64 x19)), (.sref 390794)])), (390794, some (.arr 34 TPair x20 false))], ofList false [(1, true), (1541, true), (2053, true), (390794, true)]⟩
noncomputable def lCopies.go  (m : Nat) (x0 : (El THost)) (x1 : ByteArray) : R := run (lCopies.cfg ) 41 lCopies.rs m [.code lCopies.body] (enter (ivA lCopies.ps (x0, x1, ())))
theorem lCopies.start  (m : Nat) (x0 : (El THost)) (x1 : ByteArray) : lCopies.go  (m + 1) x0 x1 =
  test (light.pre (x0, Unit.unit)) (
   cond (decide ((lightI x0) > (0 : Int))) (
    some ((.c (.v (.bool true))), [])) (
    cond (decide (((ByteArray.size x1) : Int) > (50 : Int))) (
     some ((.c (.v (.bool true))), [])) (
     test (copyR.pre (x0, Unit.unit)) (
      test (copyO.pre (x0, Unit.unit)) (
       lCopies.l1  m x1 ((List.length x0.2.2.2.2.2) : Int) (0 : Int) x0.1 x0.2.1 x0.2.2.1 x0.2.2.2.1 x0.2.2.2.2.1 x0.2.2.2.2.2 x0.1 x0.2.1 x0.2.2.1 x0.2.2.2.1 x0.2.2.2.2.1 x0.2.2.2.2.2 x0.1 x0.2.1 x0.2.2.1 x0.2.2.2.1 x0.2.2.2.2.1 x0.2.2.2.2.2))))) := by kernel_rfl
theorem lCopies.s1  (m : Nat) (x0 : ByteArray) (x1 : Int) (x2 : Int) (x3 : Int) (x4 : ByteArray) (x5 : Int) (x6 : ByteArray) (x7 : Int) (x8 : List (El TPair)) (x9 : Int) (x10 : ByteArray) (x11 : Int) (x12 : ByteArray) (x13 : Int) (x14 : List (El TPair)) (x15 : Int) (x16 : ByteArray) (x17 : Int) (x18 : ByteArray) (x19 : Int) (x20 : List (El TPair)) : lCopies.l1  (m + 1) x0 x1 x2 x3 x4 x5 x6 x7 x8 x9 x10 x11 x12 x13 x14 x15 x16 x17 x18 x19 x20 =
  cond (decide (x2 < x1)) (
   test (decide ((0 : Int) ≤ x2)) (
    test (decide (x2 < ((List.length x20) : Int))) (
     lCopies.l1  m x0 x1 (IntKind.i64.wrap (x2 + (1 : Int))) x3 x4 x5 x6 x7 x8 x9 x10 x11 x12 x13 x14 x15 x16 x17 x18 x19 (List.set x20 (Int.toNat x2) (x0, x0))))) (
   test (sameR.pre ((x3, (x4, (x5, (x6, (x7, x8))))), ((x9, (x10, (x11, (x12, (x13, x14))))), Unit.unit))) (
    cond (sameB (x3, (x4, (x5, (x6, (x7, x8))))) (x9, (x10, (x11, (x12, (x13, x14)))))) (
     some ((.c (.v (.bool true))), [])) (
     some ((.c (.v (.bool false))), [])))) := by kernel_rfl
theorem lCopies.run_eq  (m : Nat) (x0 : (El THost)) (x1 : ByteArray) : run (lCopies.cfg ) Try.f5.ntmps Try.f5.results.toList m [.code (bodyOf Try.f5)] (enter (ivA lCopies.ps (x0, x1, ()))) = lCopies.go  m x0 x1 := by kernel_rfl
theorem lCopies.ret  (hs : SpecsOK Try.prog (lCopies.specs )) (ho : OSpecsOK Try.prog (lCopies.ospecs )) (x0 : (El THost)) (x1 : ByteArray) {m : Nat} {r : IV} (h : lCopies.go  m x0 x1 = some (r, [])) : VE.Returns Try.prog 5 (ivA lCopies.ps (x0, x1, ())) r :=
  returns_of_run (cfg := lCopies.cfg ) (cfgOK_of mixed tab_ok hs ho) rfl Try.func5 (body_some (by kernel_rfl)) (Nat.le_of_ble_eq_true (by kernel_rfl)) ((lCopies.run_eq  m x0 x1).trans h)
abbrev lCopies.Law : Prop := ∀ (x0 : (El THost)) (x1 : ByteArray), lCopies.pre (x0, x1, ()) = true → VE.Returns Try.prog 5 (ivA lCopies.ps (x0, x1, ())) (lCopies.res (x0, x1, ()))
theorem lCopies.mkR (H : ∀ (x0 : (El THost)) (x1 : ByteArray), lCopies.pre (x0, x1, ()) = true → VE.Returns Try.prog 5 (ivA lCopies.ps (x0, x1, ())) (lCopies.res (x0, x1, ()))) : SpecOK Try.prog 5 lCopies.sp :=
  specOf_ret Try.func5 (by kernel_rfl) (by kernel_rfl) fun (x : (El THost) × ByteArray × Unit) hx => H (x.1) (x.2.1) hx
theorem lCopies.mk  (hs : SpecsOK Try.prog (lCopies.specs )) (ho : OSpecsOK Try.prog (lCopies.ospecs )) (H : ∀ (x0 : (El THost)) (x1 : ByteArray), lCopies.pre (x0, x1, ()) = true → ∃ m, lCopies.go  m x0 x1 = some (lCopies.res (x0, x1, ()), [])) : SpecOK Try.prog 5 lCopies.sp :=
  lCopies.mkR fun x0 x1 hx => (H x0 x1 hx).elim fun _ hm => lCopies.ret  hs ho x0 x1 hm

/-! ### triage/triagelaw7.HostTurned -/
abbrev lTurned.ps : List AK := [.d true THost, .d false (.int .i64)]
def lTurned.pre : ElA lTurned.ps → Bool := fun (x : (El THost) × Int × Unit) => fits THost (x.1) && (fits (.int .i64) (x.2.1) && ((fun h x => decide (h.2.1.size ≤ 8589934592 ∧ h.2.2.2.1.size ≤ 8589934592 ∧ List.length h.2.2.2.2.2 ≤ 268435456 ∧ -9223372036854775808 ≤ x ∧ x ≤ 9223372036854775807)) x.1 x.2.1 && (true)))
def lTurned.res : ElA lTurned.ps → IV := fun (x : (El THost) × Int × Unit) => (fun _ _ => vb true) x.1 x.2.1
def lTurned.sp : ISpec := spOf lTurned.ps lTurned.pre lTurned.res
abbrev lTurned.OK : Prop := SpecOK Try.prog 7 lTurned.sp
noncomputable def lTurned.body : Code := bodyOf Try.f7
noncomputable def lTurned.rs : List ResultVar := Try.f7.results.toList
def lTurned.live : List (Nat × Live) := []
noncomputable def lTurned.specs  : List (Nat × (List Bool × ISpec)) := [(8, ([], light.sp)), (9, ([], awake.sp)), (12, ([], same.sp))]
noncomputable def lTurned.ospecs  : List (Nat × OS) := [(19, ⟨[], [], copyRO.sp⟩)]
noncomputable def lTurned.cfg  : Cfg := ⟨lkp tab, lkp (lTurned.specs ), lkp lTurned.live, ⟨lkp (lTurned.ospecs ), [], none, false⟩⟩
noncomputable def lTurned.go  (m : Nat) (x0 : (El THost)) (x1 : Int) : R := run (lTurned.cfg ) 97 lTurned.rs m [.code lTurned.body] (enter (ivA lTurned.ps (x0, x1, ())))
theorem lTurned.start  (m : Nat) (x0 : (El THost)) (x1 : Int) : lTurned.go  (m + 1) x0 x1 =
  test (light.pre (x0, Unit.unit)) (
   cond (decide ((lightI x0) > (0 : Int))) (
    some ((.c (.v (.bool true))), [])) (
    cond (x1 == (0 : Int)) (
     some ((.c (.v (.bool true))), [])) (
     test (copyRO.pre (x0, Unit.unit)) (
      test (decide (((ByteArray.size x0.2.1) + (ByteArray.size (⟨#[120]⟩ : ByteArray))) ≤ 9223372036854775807)) (
       test (decide (((ByteArray.size x0.2.2.2.1) + (ByteArray.size (⟨#[122]⟩ : ByteArray))) ≤ 9223372036854775807)) (
        test (decide (((List.length x0.2.2.2.2.2) + (List.length (((⟨#[109, 111, 114, 101]⟩ : ByteArray), (⟨#[109]⟩ : ByteArray)) :: ([] : List (El TPair))))) ≤ (lim 32))) (
         test (same.pre (x0, (((IntKind.i64.wrap ((BitVec.toNat ((BitVec.ofInt (Go.IntKind.bits Go.IntKind.i64) x0.1) ^^^ (BitVec.ofInt (Go.IntKind.bits Go.IntKind.i64) x1))) : Int)), x0.2), Unit.unit))) (
          cond (Bool.not (sameB x0 ((IntKind.i64.wrap ((BitVec.toNat ((BitVec.ofInt (Go.IntKind.bits Go.IntKind.i64) x0.1) ^^^ (BitVec.ofInt (Go.IntKind.bits Go.IntKind.i64) x1))) : Int)), x0.2))) (
           test (same.pre ((x0.1, ((x0.2.1 ++ (⟨#[120]⟩ : ByteArray)), x0.2.2)), (x0, Unit.unit))) (
            cond (Bool.not (sameB (x0.1, ((x0.2.1 ++ (⟨#[120]⟩ : ByteArray)), x0.2.2)) x0)) (
             test (same.pre (x0, ((x0.1, (x0.2.1, ((IntKind.i64.wrap ((BitVec.toNat ((BitVec.ofInt (Go.IntKind.bits Go.IntKind.i64) x0.2.2.1) ^^^ (BitVec.ofInt (Go.IntKind.bits Go.IntKind.i64) x1))) : Int)), x0.2.2.2))), Unit.unit))) (
              cond (Bool.not (sameB x0 (x0.1, (x0.2.1, ((IntKind.i64.wrap ((BitVec.toNat ((BitVec.ofInt (Go.IntKind.bits Go.IntKind.i64) x0.2.2.1) ^^^ (BitVec.ofInt (Go.IntKind.bits Go.IntKind.i64) x1))) : Int)), x0.2.2.2))))) (
               test (same.pre ((x0.1, (x0.2.1, (x0.2.2.1, ((x0.2.2.2.1 ++ (⟨#[122]⟩ : ByteArray)), x0.2.2.2.2)))), (x0, Unit.unit))) (
                cond (Bool.not (sameB (x0.1, (x0.2.1, (x0.2.2.1, ((x0.2.2.2.1 ++ (⟨#[122]⟩ : ByteArray)), x0.2.2.2.2)))) x0)) (
                 test (same.pre (x0, ((x0.1, (x0.2.1, (x0.2.2.1, (x0.2.2.2.1, (x0.2.2.2.2.1, (x0.2.2.2.2.2 ++ (((⟨#[109, 111, 114, 101]⟩ : ByteArray), (⟨#[109]⟩ : ByteArray)) :: ([] : List (El TPair))))))))), Unit.unit))) (
                  cond (Bool.not (sameB x0 (x0.1, (x0.2.1, (x0.2.2.1, (x0.2.2.2.1, (x0.2.2.2.2.1, (x0.2.2.2.2.2 ++ (((⟨#[109, 111, 114, 101]⟩ : ByteArray), (⟨#[109]⟩ : ByteArray)) :: ([] : List (El TPair))))))))))) (
                   test (same.pre ((x0.1, (x0.2.1, (x0.2.2.1, (x0.2.2.2.1, ((IntKind.i64.wrap ((BitVec.toNat ((BitVec.ofInt (Go.IntKind.bits Go.IntKind.i64) x0.2.2.2.2.1) ^^^ (BitVec.ofInt (Go.IntKind.bits Go.IntKind.i64) x1))) : Int)), x0.2.2.2.2.2))))), (x0, Unit.unit))) (
                    cond (Bool.not (sameB (x0.1, (x0.2.1, (x0.2.2.1, (x0.2.2.2.1, ((IntKind.i64.wrap ((BitVec.toNat ((BitVec.ofInt (Go.IntKind.bits Go.IntKind.i64) x0.2.2.2.2.1) ^^^ (BitVec.ofInt (Go.IntKind.bits Go.IntKind.i64) x1))) : Int)), x0.2.2.2.2.2))))) x0)) (
                     test (same.pre (x0, (x0, Unit.unit))) (
                      cond (sameB x0 x0) (
                       some ((.c (.v (.bool true))), [])) (
                       some ((.c (.v (.bool false))), [])))) (
                     some ((.c (.v (.bool false))), [])))) (
                   some ((.c (.v (.bool false))), [])))) (
                 some ((.c (.v (.bool false))), [])))) (
               some ((.c (.v (.bool false))), [])))) (
             some ((.c (.v (.bool false))), [])))) (
           some ((.c (.v (.bool false))), [])))))))))) := by kernel_rfl
theorem lTurned.run_eq  (m : Nat) (x0 : (El THost)) (x1 : Int) : run (lTurned.cfg ) Try.f7.ntmps Try.f7.results.toList m [.code (bodyOf Try.f7)] (enter (ivA lTurned.ps (x0, x1, ()))) = lTurned.go  m x0 x1 := by kernel_rfl
theorem lTurned.ret  (hs : SpecsOK Try.prog (lTurned.specs )) (ho : OSpecsOK Try.prog (lTurned.ospecs )) (x0 : (El THost)) (x1 : Int) {m : Nat} {r : IV} (h : lTurned.go  m x0 x1 = some (r, [])) : VE.Returns Try.prog 7 (ivA lTurned.ps (x0, x1, ())) r :=
  returns_of_run (cfg := lTurned.cfg ) (cfgOK_of mixed tab_ok hs ho) rfl Try.func7 (body_some (by kernel_rfl)) (Nat.le_of_ble_eq_true (by kernel_rfl)) ((lTurned.run_eq  m x0 x1).trans h)
abbrev lTurned.Law : Prop := ∀ (x0 : (El THost)) (x1 : Int), lTurned.pre (x0, x1, ()) = true → VE.Returns Try.prog 7 (ivA lTurned.ps (x0, x1, ())) (lTurned.res (x0, x1, ()))
theorem lTurned.mkR (H : ∀ (x0 : (El THost)) (x1 : Int), lTurned.pre (x0, x1, ()) = true → VE.Returns Try.prog 7 (ivA lTurned.ps (x0, x1, ())) (lTurned.res (x0, x1, ()))) : SpecOK Try.prog 7 lTurned.sp :=
  specOf_ret Try.func7 (by kernel_rfl) (by kernel_rfl) fun (x : (El THost) × Int × Unit) hx => H (x.1) (x.2.1) hx
theorem lTurned.mk  (hs : SpecsOK Try.prog (lTurned.specs )) (ho : OSpecsOK Try.prog (lTurned.ospecs )) (H : ∀ (x0 : (El THost)) (x1 : Int), lTurned.pre (x0, x1, ()) = true → ∃ m, lTurned.go  m x0 x1 = some (lTurned.res (x0, x1, ()), [])) : SpecOK Try.prog 7 lTurned.sp :=
  lTurned.mkR fun x0 x1 hx => (H x0 x1 hx).elim fun _ hm => lTurned.ret  hs ho x0 x1 hm

end Go.Proofs.Ytnmkcfcodhbanaa
