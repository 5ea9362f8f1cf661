/-
  A program's types as the ideal machine reads them; a function's law by its body's run.
-/
import Derived.Test.YtdoilggfajngiaaVT
namespace Go.Proofs.Ytdoilggfajngiaa.VE
open Go Go.RowKit

def dShape (P : Program) (t : TypeId) : TypeDesc → D
  | .int k => .int k
  | .bool => .bool
  | .string => .str
  | .slice e => .sl e
  | .pointer e => .ptr e
  | .struct fs => if fs.toList.all (fun f => !(f.name == "_")) && !P.eqGuardType P.depth t && !P.stoodInHeld t then .st (fs.toList.map fun f => (f.offset, f.type)) else .other
  | .array n e => .arr n e
  | .func _ _ _ => .fnc
  | .map k e => .map k e
  | _ => .other

/-- A type as the program has it. -/
def mkTI (P : Program) (t : TypeId) (ty : Option Ty) : Option TI :=
  match P.info? t, P.underlying t with
  | some i, some d =>
    (match i.zero with
     | some z => if (z.cells.size = i.size ∧ z.cells.toList.all Value.oneCell' = true) ∧ ((dShape P t d).agg || z.oneCell') = true then some ⟨i.size, i.bytes, dShape P t d, z.cells.toList.map IC.v, ty⟩ else none
     | none => none)
  | _, _ => none

theorem mkTI_ok {P : Program} {t : TypeId} {ty : Option Ty} {i : TI} (h : mkTI P t ty = some i) (hagg : i.d = .other → False) : TOK P t i := by
  unfold mkTI at h
  split at h
  · rename_i ti d h1 h2
    split at h
    · rename_i z hz
      split at h
      · rename_i hc
        simp only [Option.some.injEq] at h
        subst h
        refine ⟨⟨ti, z, h1, rfl, rfl, hz, hc.1.1, rfl, fun u hu => List.all_eq_true.1 hc.1.2 u hu⟩, ⟨d, h2, ?_⟩, fun hag ti' z' e1 e2 => by
          rw [h1] at e1; injection e1 with e1; subst e1
          rw [hz] at e2; injection e2 with e2; subst e2
          have h3 := hc.2
          have hag : (dShape P t d).agg = false := hag
          rw [hag] at h3
          simpa using h3⟩
        cases d with
        | struct fs =>
          simp only [dShape] at hagg ⊢
          split
          · rename_i hs
            simp only [Bool.and_eq_true, Bool.not_eq_true', List.all_eq_true] at hs
            refine ⟨rfl, fun f hf => ?_, hs.1.2, hs.2, ?_⟩
            · have := hs.1.1 f hf
              simpa using this
            · simp only [Program.fieldsOf, h2]
          · rename_i hs
            rw [if_neg hs] at hagg
            exact (hagg rfl).elim
        | int k => rfl
        | array n e => exact ⟨rfl, rfl⟩
        | map k e => exact ⟨rfl, rfl⟩
        | _ => trivial
      · cases h
    · cases h
  · cases h

def lkp {α : Type} : List (Nat × α) → Nat → Option α
  | [], _ => none
  | (i, x) :: r, j => bif Nat.beq j i then some x else lkp r j

theorem lkp_mem {α : Type} : ∀ {l : List (Nat × α)} {j : Nat} {x : α}, lkp l j = some x → (j, x) ∈ l
  | [], _, _, h => by cases h
  | (i, y) :: r, j, x, h => by
    unfold lkp at h
    cases hb : Nat.beq j i with
    | true =>
      rw [hb] at h
      simp only [cond_true, Option.some.injEq] at h
      rw [Nat.eq_of_beq_eq_true hb, h]
      exact List.mem_cons_self ..
    | false =>
      rw [hb] at h
      exact List.mem_cons_of_mem _ (lkp_mem h)

def isOther : D → Bool
  | .other => true
  | _ => false

/-- The table: for each type its number and what is laid for it. -/
def tabOf (P : Program) : List (Nat × Option Ty) → Option (List (Nat × TI))
  | [] => some []
  | (t, ty) :: r => (match mkTI P t ty, tabOf P r with
    | some i, some l => bif isOther i.d then none else some ((t, i) :: l)
    | _, _ => none)

theorem tabOf_ok {P : Program} : ∀ {l : List (Nat × Option Ty)} {tab : List (Nat × TI)}, tabOf P l = some tab → ∀ p, p ∈ tab → TOK P p.1 p.2
  | [], tab, h, p, hp => by
    simp only [tabOf, Option.some.injEq] at h
    subst h; cases hp
  | (t, ty) :: r, tab, h, p, hp => by
    simp only [tabOf] at h
    split at h
    · rename_i i l h1 h2
      cases hb : isOther i.d with
      | true => rw [hb] at h; cases h
      | false =>
        rw [hb] at h
        simp only [cond_false, Option.some.injEq] at h
        subst h
        rcases List.mem_cons.1 hp with rfl | hp
        · exact mkTI_ok h1 fun ho => by rw [ho] at hb; cases hb
        · exact tabOf_ok h2 p hp
    · cases h

theorem tyOK_of_tab {P : Program} {l : List (Nat × Option Ty)} {tab : List (Nat × TI)} (h : tabOf P l = some tab) : TyOK P (lkp tab) := fun _ _ hi => tabOf_ok h _ (lkp_mem hi)

theorem call_enter {P : Program} {g : FuncId} {fn : Func} (hf : P.funcs[g]? = some fn) (hn : (fn.name == "runtime.NumGoroutine") = false) (hb : fn.body.isNone = false) (args : Array Value) (w : World) :
    (callFunc g args).run P w = .ok (.enter g args) w := by
  have h1 : fn.name ≠ "runtime.NumGoroutine" := by simpa using hn
  have h2 : fn.body ≠ none := by
    intro h
    rw [h] at hb
    cases hb
  simp [callFunc, hf, h1, h2]

def bodyOf (fn : Func) : Code := match fn.body with | some c => c | none => .skip

/-- A contract out of runs: wherever the contract answers, some run does, alike. -/
theorem specOK_of_run {P : Program} {cfg : Cfg} (hcfg : CfgOK P cfg) (hfin : cfg.more.fin = none) {g : FuncId} {fn : Func} (hf : P.funcs[g]? = some fn) (hn : (fn.name == "runtime.NumGoroutine") = false) (hb : fn.body.isNone = false) {sp : ISpec}
    (H : ∀ args k r, sp args k = some r → ∃ res, (∀ k', sp args k' = k' res []) ∧ args.length ≤ fn.ntmps ∧ ∃ m, run cfg fn.ntmps fn.results.toList m [.code (bodyOf fn)] (enter args) = some (res, [])) : SpecOK P g sp := by
  refine ⟨call_enter hf hn hb, fun args k r h => ?_⟩
  obtain ⟨res, h1, h2, m, h3⟩ := H args k r h
  refine ⟨res, h1, returns_of_run hcfg hfin hf ?_ h2 h3⟩
  unfold bodyOf
  cases hbd : fn.body with
  | none => rw [hbd] at hb; cases hb
  | some c => rfl

/-- Contracts, one by one. -/
def SpecsOK (P : Program) (sp : List (Nat × (List Bool × ISpec))) : Prop := ∀ p, p ∈ sp → SpecOK P p.1 p.2.2
theorem SpecsOK.nil {P : Program} : SpecsOK P [] := fun _ h => by cases h
theorem SpecsOK.cons {P : Program} {g : Nat} {b : List Bool} {s : ISpec} {l : List (Nat × (List Bool × ISpec))} (hl : SpecsOK P l) (h : SpecOK P g s) : SpecsOK P ((g, (b, s)) :: l) := fun p hp => by
  rcases List.mem_cons.1 hp with rfl | hp
  · exact h
  · exact hl p hp
theorem SpecOK.cons' {P : Program} {g : Nat} {b : List Bool} {s : ISpec} {l : List (Nat × (List Bool × ISpec))} (h : SpecOK P g s) (hl : SpecsOK P l) : SpecsOK P ((g, (b, s)) :: l) := hl.cons h
/-- Contracts with boxes, one by one. -/
def OSpecsOK (P : Program) (sp : List (Nat × OS)) : Prop := ∀ p, p ∈ sp → SpecOKO P p.1 p.2.sp
theorem OSpecsOK.nil {P : Program} : OSpecsOK P [] := fun _ h => by cases h
theorem SpecOKO.cons' {P : Program} {g : Nat} {o : List (Option LK)} {b : List Bool} {s : OSpec} {l : List (Nat × OS)} (h : SpecOKO P g s) (hl : OSpecsOK P l) : OSpecsOK P ((g, ⟨o, b, s⟩) :: l) := fun p hp => by
  rcases List.mem_cons.1 hp with rfl | hp
  · exact h
  · exact hl p hp
theorem cfgOK_of {P : Program} (hm : P.follows .mixedOrders = true) {tab : List (Nat × TI)} {l : List (Nat × Option Ty)} (h : tabOf P l = some tab) {sp : List (Nat × (List Bool × ISpec))} (hs : SpecsOK P sp) {live : Nat → Option Live}
    {os : List (Nat × OS)} (ho : OSpecsOK P os) {objs : List Nat} {fin : Option (List LK × List (Nat × List LK))} {vw : Bool} {ov : List Nat} (hov : ∀ g, g ∈ ov → OvlFn P g := by intro g hg; cases hg) :
    CfgOK P ⟨lkp tab, lkp sp, live, ⟨lkp os, objs, fin, vw, ov⟩⟩ := ⟨tyOK_of_tab h, hm, fun _ _ hg => hs _ (lkp_mem hg), fun _ _ hg => ho _ (lkp_mem hg), hov⟩

/-! ### a nil slice, handed over -/

def normArg : Option Ty → IV → IV
  | some t, .c (.v (.slice none 0 0)) => .c (.sl t [])
  | _, x => x

theorem normArg_sound {x : Xs} {w : World} {v : Value} {o : Option Ty} {a : IV} (h : IVRel x w v a) : IVRel x w v (normArg o a) := by
  unfold normArg
  split
  · rename_i t
    obtain ⟨rfl, _⟩ := iv_v h
    exact .c _ _ (.sl t [] none 0 (fun _ _ => undef) (Nat.le_refl _) (fun _ => rfl) (fun i hi => absurd hi (by simp)) (fun i e hi => by simp at hi))
  · exact h

/-- A contract over plain lists, for whoever hands over nil as well. -/
def withSl (ts : List (Option Ty)) (sp : ISpec) : ISpec := fun args k => test (Nat.beq args.length ts.length) (sp (List.zipWith normArg ts args) k)

theorem SpecOK.withSl {P : Program} {g : Nat} {ts : List (Option Ty)} {sp : ISpec} (h : SpecOK P g sp) : SpecOK P g (VE.withSl ts sp) := by
  refine ⟨h.call, fun args k r H => ?_⟩
  unfold VE.withSl at H
  obtain ⟨h1, h2⟩ := test_some H
  obtain ⟨res, g1, g2⟩ := h.ret _ _ _ h2
  have hl : args.length = ts.length := Nat.eq_of_beq_eq_true h1
  refine ⟨res, fun k' => ?_, fun w us ok hok hld hus ha => g2 w us ok hok hld ?_ fun j c hc => ?_⟩
  · unfold VE.withSl
    rw [h1]
    exact g1 k'
  · rw [hus, List.length_zipWith, hl, Nat.min_self]
  · rw [List.getElem?_zipWith] at hc
    split at hc
    · rename_i o a _ h4
      simp only [Option.some.injEq] at hc
      subst hc
      exact normArg_sound (ha j a h4)
    · cases hc

end Go.Proofs.Ytdoilggfajngiaa.VE
