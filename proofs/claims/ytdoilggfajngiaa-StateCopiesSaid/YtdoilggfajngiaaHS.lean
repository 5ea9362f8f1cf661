/-
  Steps of the bodies, from checkpoint to checkpoint (printed by wip/VE/mk2.py).
-/
import Derived.Test.YtdoilggfajngiaaHC
namespace Go.Proofs.Ytdoilggfajngiaa
open Go VE

/-! ### slices.Clone(()triage/api.Pair,triage/api.Pair) -/
abbrev cloneO.ps : List AK := [.d false (.sl TPair)]
def cloneO.pre : ElA cloneO.ps → Bool := fun (x : (List (El TPair)) × Unit) => fits (.sl TPair) (x.1) && (true)
def cloneO.rv : ElA cloneO.ps → List RV := fun (x : (List (El TPair)) × Unit) => [.m 50 TPair ((fun l => l) x.1)]
def cloneO.res : ElA cloneO.ps → IV := fun x => oneOrTup (rvIVs 0 (cloneO.rv x))
def cloneO.back : ElA cloneO.ps → List (Nat × Box) := fun (x : (List (El TPair)) × Unit) => rvBxs 0 (cloneO.rv x)
def cloneO.sp : OSpec := spO cloneO.ps cloneO.pre cloneO.res cloneO.back
abbrev cloneO.OK : Prop := SpecOKO Try.prog 50 cloneO.sp
theorem cloneO.mkR (H : ∀ (x0 : (List (El TPair))), cloneO.pre (x0, ()) = true → VE.ReturnsO Try.prog 50 (ivAO 0 cloneO.ps (x0, ())) (bxAO 0 cloneO.ps (x0, ())) (cloneO.res (x0, ())) (cloneO.back (x0, ()))) : SpecOKO Try.prog 50 cloneO.sp :=
  specO_ret Try.func50 (by kernel_rfl) (by kernel_rfl) fun (x : (List (El TPair)) × Unit) hx => H (x.1) hx

/-! ### slices.Clone(()triage/api.Pair,triage/api.Pair) -/
noncomputable def cloneON.body : Code := bodyOf Try.f50
noncomputable def cloneON.rs : List ResultVar := Try.f50.results.toList
def cloneON.live : List (Nat × Live) := []
noncomputable def cloneON.specs  : List (Nat × (List Bool × ISpec)) := []
noncomputable def cloneON.ospecs  : List (Nat × OS) := []
noncomputable def cloneON.cfg  : Cfg := ⟨lkp tab, lkp (cloneON.specs ), lkp cloneON.live, ⟨lkp (cloneON.ospecs ), [], some ([.arr 50 TPair], []), false, []⟩⟩
noncomputable def cloneON.go  (m : Nat)  : R := run (cloneON.cfg ) 8 cloneON.rs m [.code cloneON.body] (enterO [.c (.v (.slice none 0 0))] [])
theorem cloneON.start  (m : Nat)  : cloneON.go  (m + 1)  =
  some ((.c (.sref 115326)), [(115326, (.arr 50 TPair ([] : List (El TPair)) false))]) := by kernel_rfl
theorem cloneON.run_eq  (m : Nat)  : run (cloneON.cfg ) Try.f50.ntmps Try.f50.results.toList m [.code (bodyOf Try.f50)] (enterO [.c (.v (.slice none 0 0))] []) = cloneON.go  m  := by kernel_rfl
theorem cloneON.ret  (hs : SpecsOK Try.prog (cloneON.specs ))   {m : Nat} {r : IV} {b : List (Nat × Box)} (h : cloneON.go  m  = some (r, b)) : VE.ReturnsO Try.prog 50 [.c (.v (.slice none 0 0))] [] r b :=
  returnsO_of_run (cfg := cloneON.cfg ) (cfgOK_of mixed tab_ok hs .nil) rfl Try.func50 (body_some (by kernel_rfl)) (Nat.le_of_ble_eq_true (by kernel_rfl)) (fun _ _ _ h => by cases h) ((cloneON.run_eq  m ).trans h)

/-! ### slices.Clone(()triage/api.Pair,triage/api.Pair) -/
noncomputable def cloneOE.body : Code := bodyOf Try.f50
noncomputable def cloneOE.rs : List ResultVar := Try.f50.results.toList
def cloneOE.live : List (Nat × Live) := []
noncomputable def cloneOE.specs  : List (Nat × (List Bool × ISpec)) := []
noncomputable def cloneOE.ospecs  : List (Nat × OS) := []
noncomputable def cloneOE.cfg  : Cfg := ⟨lkp tab, lkp (cloneOE.specs ), lkp cloneOE.live, ⟨lkp (cloneOE.ospecs ), [], some ([.arr 50 TPair], []), false, []⟩⟩
noncomputable def cloneOE.go  (m : Nat)  : R := run (cloneOE.cfg ) 8 cloneOE.rs m [.code cloneOE.body] (enterO [.c .emp] [])
theorem cloneOE.start  (m : Nat)  : cloneOE.go  (m + 1)  =
  some ((.c (.sref 115326)), [(115326, (.arr 50 TPair (([] : List (El TPair)) ++ ([] : List (El TPair))) false))]) := by kernel_rfl
theorem cloneOE.run_eq  (m : Nat)  : run (cloneOE.cfg ) Try.f50.ntmps Try.f50.results.toList m [.code (bodyOf Try.f50)] (enterO [.c .emp] []) = cloneOE.go  m  := by kernel_rfl
theorem cloneOE.ret  (hs : SpecsOK Try.prog (cloneOE.specs ))   {m : Nat} {r : IV} {b : List (Nat × Box)} (h : cloneOE.go  m  = some (r, b)) : VE.ReturnsO Try.prog 50 [.c .emp] [] r b :=
  returnsO_of_run (cfg := cloneOE.cfg ) (cfgOK_of mixed tab_ok hs .nil) rfl Try.func50 (body_some (by kernel_rfl)) (Nat.le_of_ble_eq_true (by kernel_rfl)) (fun _ _ _ h => by cases h) ((cloneOE.run_eq  m ).trans h)

/-! ### slices.Clone(()triage/api.Pair,triage/api.Pair) -/
noncomputable def cloneOC.body : Code := bodyOf Try.f50
noncomputable def cloneOC.rs : List ResultVar := Try.f50.results.toList
def cloneOC.live : List (Nat × Live) := []
noncomputable def cloneOC.specs  : List (Nat × (List Bool × ISpec)) := []
noncomputable def cloneOC.ospecs  : List (Nat × OS) := []
noncomputable def cloneOC.cfg  : Cfg := ⟨lkp tab, lkp (cloneOC.specs ), lkp cloneOC.live, ⟨lkp (cloneOC.ospecs ), [], some ([.arr 50 TPair], []), false, []⟩⟩
noncomputable def cloneOC.go  (m : Nat) (x0 : (El TPair)) (x1 : (List (El TPair))) : R := run (cloneOC.cfg ) 8 cloneOC.rs m [.code cloneOC.body] (enterO [.c (.sl TPair (x0 :: x1))] [])
theorem cloneOC.start  (m : Nat) (x0 : (El TPair)) (x1 : (List (El TPair))) : cloneOC.go  (m + 1) x0 x1 =
  test (decide (((List.length ([] : List (El TPair))) + (List.length (x0 :: x1))) ≤ (lim 32))) (
   some ((.c (.sref 115326)), [(115326, (.arr 50 TPair (([] : List (El TPair)) ++ (x0 :: x1)) false))])) := by kernel_rfl
theorem cloneOC.run_eq  (m : Nat) (x0 : (El TPair)) (x1 : (List (El TPair))) : run (cloneOC.cfg ) Try.f50.ntmps Try.f50.results.toList m [.code (bodyOf Try.f50)] (enterO [.c (.sl TPair (x0 :: x1))] []) = cloneOC.go  m x0 x1 := by kernel_rfl
theorem cloneOC.ret  (hs : SpecsOK Try.prog (cloneOC.specs ))  (x0 : (El TPair)) (x1 : (List (El TPair))) {m : Nat} {r : IV} {b : List (Nat × Box)} (h : cloneOC.go  m x0 x1 = some (r, b)) : VE.ReturnsO Try.prog 50 [.c (.sl TPair (x0 :: x1))] [] r b :=
  returnsO_of_run (cfg := cloneOC.cfg ) (cfgOK_of mixed tab_ok hs .nil) rfl Try.func50 (body_some (by kernel_rfl)) (Nat.le_of_ble_eq_true (by kernel_rfl)) (fun _ _ _ h => by cases h) ((cloneOC.run_eq  m x0 x1).trans h)

/-! ### triage/host.Copy -/
abbrev copyO.ps : List AK := [.d true THost]
def copyO.pre : ElA copyO.ps → Bool := fun (x : (El THost) × Unit) => fits THost (x.1) && (true)
def copyO.rv : ElA copyO.ps → List RV := fun (x : (El THost) × Unit) => [.a THost [none, none, none, none, none, some 50] ((fun h => h) x.1)]
def copyO.res : ElA copyO.ps → IV := fun x => oneOrTup (rvIVs 0 (copyO.rv x))
def copyO.back : ElA copyO.ps → List (Nat × Box) := fun (x : (El THost) × Unit) => rvBxs 0 (copyO.rv x)
def copyO.sp : OSpec := spO copyO.ps copyO.pre copyO.res copyO.back
abbrev copyO.OK : Prop := SpecOKO Try.prog 35 copyO.sp
noncomputable def copyO.body : Code := bodyOf Try.f35
noncomputable def copyO.rs : List ResultVar := Try.f35.results.toList
def copyO.live : List (Nat × Live) := []
noncomputable def copyO.specs  : List (Nat × (List Bool × ISpec)) := []
noncomputable def copyO.ospecs  : List (Nat × OS) := [(50, ⟨[], [], cloneO.sp⟩)]
noncomputable def copyO.cfg  : Cfg := ⟨lkp tab, lkp (copyO.specs ), lkp copyO.live, ⟨lkp (copyO.ospecs ), oids 0 copyO.ps, some ([.agg [.plain, .plain, .plain, .plain, .plain, .arr 50 TPair]], []), false, []⟩⟩
noncomputable def copyO.go  (m : Nat) (x0 : (El THost)) : R := run (copyO.cfg ) 8 copyO.rs m [.code copyO.body] (enterO (ivAO 0 copyO.ps (x0, ())) (bxAO 0 copyO.ps (x0, ())))
theorem copyO.start  (m : Nat) (x0 : (El THost)) : copyO.go  (m + 1) x0 =
  test (cloneO.pre (x0.2.2.2.2.2, Unit.unit)) (
   some ((.agg [(.v (.int .i64 x0.1)), (.v (.string x0.2.1)), (.v (.int .i64 x0.2.2.1)), (.v (.string x0.2.2.2.1)), (.v (.int .i64 x0.2.2.2.2.1)), (.sref 14889738)]), [(14889738, (.arr 50 TPair x0.2.2.2.2.2 false))])) := by kernel_rfl
theorem copyO.run_eq  (m : Nat) (x0 : (El THost)) : run (copyO.cfg ) Try.f35.ntmps Try.f35.results.toList m [.code (bodyOf Try.f35)] (enterO (ivAO 0 copyO.ps (x0, ())) (bxAO 0 copyO.ps (x0, ()))) = copyO.go  m x0 := by kernel_rfl
theorem copyO.ret  (hs : SpecsOK Try.prog (copyO.specs )) (ho : OSpecsOK Try.prog (copyO.ospecs )) (x0 : (El THost)) {m : Nat} {r : IV} {b : List (Nat × Box)} (h : copyO.go  m x0 = some (r, b)) : VE.ReturnsO Try.prog 35 (ivAO 0 copyO.ps (x0, ())) (bxAO 0 copyO.ps (x0, ())) r b :=
  returnsO_of_run (cfg := copyO.cfg ) (cfgOK_of mixed tab_ok hs ho) rfl Try.func35 (body_some (by kernel_rfl)) (Nat.le_of_ble_eq_true (by kernel_rfl)) (fun _ _ _ h => oids_mem h) ((copyO.run_eq  m x0).trans h)
abbrev copyO.Law : Prop := ∀ (x0 : (El THost)), copyO.pre (x0, ()) = true → VE.ReturnsO Try.prog 35 (ivAO 0 copyO.ps (x0, ())) (bxAO 0 copyO.ps (x0, ())) (copyO.res (x0, ())) (copyO.back (x0, ()))
theorem copyO.mkR (H : ∀ (x0 : (El THost)), copyO.pre (x0, ()) = true → VE.ReturnsO Try.prog 35 (ivAO 0 copyO.ps (x0, ())) (bxAO 0 copyO.ps (x0, ())) (copyO.res (x0, ())) (copyO.back (x0, ()))) : SpecOKO Try.prog 35 copyO.sp :=
  specO_ret Try.func35 (by kernel_rfl) (by kernel_rfl) fun (x : (El THost) × Unit) hx => H (x.1) hx
theorem copyO.mk  (hs : SpecsOK Try.prog (copyO.specs )) (ho : OSpecsOK Try.prog (copyO.ospecs )) (H : ∀ (x0 : (El THost)), copyO.pre (x0, ()) = true → ∃ m, copyO.go  m x0 = some (copyO.res (x0, ()), copyO.back (x0, ()))) : SpecOKO Try.prog 35 copyO.sp :=
  copyO.mkR fun x0 hx => (H x0 hx).elim fun _ hm => copyO.ret  hs ho x0 hm

end Go.Proofs.Ytdoilggfajngiaa
