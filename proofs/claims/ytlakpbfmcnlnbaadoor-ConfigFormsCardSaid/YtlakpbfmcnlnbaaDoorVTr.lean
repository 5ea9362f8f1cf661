/-
  Code without loops, in whatever frame (a function's, a round's), whatever has been put off: it runs as the ideal machine does.
-/
import Derived.Test.YtlakpbfmcnlnbaaDoorVT
import Derived.OrdersIn
import Derived.RangeFuncFrom
namespace Go.Proofs.YtlakpbfmcnlnbaaDoor.VE
open Go Go.RowKit

/-- The fence of a function (none), of a round (its loop's record): nothing is barred. -/
abbrev FR (ro : Option Nat) : Fence := { Fence.wide with round := ro }
/-- The same activation, with more put off. -/
def addD (a : Act) (D : List Deferred) : Act := { a with defers := a.defers ++ D }
theorem addD_put (a : Act) (D : List Deferred) (d : Option Tmp) (v : Value) : (addD a D).put d v = addD (a.put d v) D := by cases d <;> rfl
theorem addD_eval (a : Act) (D : List Deferred) : (addD a D).eval = a.eval := by funext X; cases X <;> rfl
theorem addD_nil (a : Act) : addD a [] = a := by unfold addD; rw [List.append_nil]
/-- Put off besides. -/
def upD (D : List Deferred) (K : Act → World → Prop) : Act → World → Prop := fun A w => ∃ a, A = addD a D ∧ K a w
def upDQ (D : List Deferred) (Q : Exit → Act → World → Prop) : Exit → Act → World → Prop := fun e => upD D (Q e)

def isDefer : Op → Bool
  | .defer _ => true
  | _ => false
theorem notDefer {op : Op} (h : isDefer op = false) : ∀ c, op ≠ .defer c := fun c e => by rw [e] at h; cases h

section
variable {P : Program} {Q : Exit → Act → World → Prop} {D : List Deferred}

theorem wpIn_of_wp {o : Oper} (hnd : isDefer o.op = false) {a : Act} {w : World} {next : Act → World → Prop} (h : o.wp P a w next Q) (ro : Option Nat) (n : Nat) : o.wpIn (FR ro) n P (addD a D) w (upD D next) (upDQ D Q) := by
  unfold Oper.wpIn
  refine ⟨fun _ _ => trivial, ?_⟩
  rw [show (FR ro).round = ro from rfl, Oper.semAt_eq _ _ _ (notDefer hnd), addD_eval]
  unfold Oper.wp at h
  generalize (execOp a.eval o).run P w = r at h ⊢
  have hdp : (FR ro).depth.isSome = true → 1 ≤ n := fun h => by cases h
  cases r with
  | ok y w' =>
    cases y with
    | value v => exact ⟨_, addD_put a D o.dst v, h⟩
    | skip => exact ⟨_, addD_put a D o.dst undef, h⟩
    | defer d => exact ⟨_, (by cases o.dst <;> rfl), h⟩
    | enter f args =>
      refine ⟨hdp, CallsIn.mono ((callsIn_wide (n := n - 1)).2 h) fun e w'' he => ?_⟩
      cases e with
      | returned v => exact ⟨_, addD_put a D o.dst v, he⟩
      | panicked ch => exact ⟨a, rfl, he⟩
      | outgrown =>
        obtain ⟨a', w', h'⟩ := he
        exact ⟨addD a' D, w', a', rfl, h'⟩
    | row row args => exact ⟨hdp, fun c cs _ => let ⟨v, w', r, s⟩ := h c cs; ⟨v, w', ⟨_, addD_put a D o.dst v, r⟩, stepsIn_wide.2 s⟩⟩
    | _ => exact False.elim h
  | halt e w' =>
    cases e <;> first | exact ⟨a, rfl, h⟩ | exact False.elim h

theorem wpOpIn_of {ops : Array Oper} (hQ : ¬ LetsOut Q) (ro : Option Nat) (n : Nat) {i : Nat} (hnd : ∀ (o : Oper), ops[i]? = some o → isDefer o.op = false) {K : Act → World → Prop} {K' : Act → World → Prop} (hK : ∀ a w, K a w → K' (addD a D) w) {a : Act} {w : World}
    (h : wpOp P ops Q i K a w) : wpOpIn (FR ro) n P ops (upDQ D Q) i K' (addD a D) w := by
  unfold wpOp at h
  unfold wpOpIn
  cases ho : ops[i]? with
  | none => rw [ho] at h; exact hK _ _ h
  | some o =>
    rw [ho] at h
    simp only at h ⊢
    have ey : yielded ops (addD a D).tmps = yielded ops a.tmps := rfl
    rw [ey]
    by_cases hw : Region.wanted o (yielded ops a.tmps) = true
    · rw [if_pos hw] at h ⊢
      rcases h with h | h
      · exact Oper.wpIn_mono (fun A w ⟨a', e, ha⟩ => by rw [e]; exact hK a' w ha) (wpIn_of_wp (hnd o ho) h ro n)
      · exact absurd h.2 hQ
    · rw [if_neg hw] at h ⊢
      exact ⟨fun _ _ => trivial, by rw [addD_put]; exact hK _ _ h⟩

theorem wpOpsIn_of {ops : Array Oper} (hQ : ¬ LetsOut Q) (ro : Option Nat) (n : Nat) (hnd : ∀ (i : Nat) (o : Oper), ops[i]? = some o → isDefer o.op = false) : ∀ (L : List Nat) (a : Act) (w : World), wpOps P ops Q L a w → wpOpsIn (FR ro) n P ops (upDQ D Q) L (addD a D) w
  | [], a, _, h => ⟨a, rfl, h⟩
  | i :: L, a, w, h => by
    rw [wpOps_cons] at h
    rw [wpOpsIn_cons]
    exact wpOpIn_of hQ ro n (hnd i) (fun a w => wpOpsIn_of hQ ro n hnd L a w) h

theorem wpAnyIn_of {ops : Array Oper} {md : Region.Mode} (hQ : ¬ LetsOut Q) (ro : Option Nat) (n : Nat) (hnd : ∀ (i : Nat) (o : Oper), ops[i]? = some o → isDefer o.op = false) : ∀ (f : Nat) (L : Array Bool) (a : Act) (w : World), wpAny P md ops Q f L a w → wpAnyIn (FR ro) n P md ops (upDQ D Q) f L (addD a D) w
  | 0, _, a, _, h => ⟨h.1, a, rfl, h.2⟩
  | f + 1, L, a, w, h => ⟨fun e => ⟨a, rfl, h.1 e⟩, fun i hi => wpOpIn_of hQ ro n (hnd i) (fun a w => wpAnyIn_of hQ ro n hnd f _ a w) (h.2 i hi)⟩

end

/-- Code without loops: k is told how it ends (nought: through; one: return; else the place that is left, and two). -/
def evalR (cfg : Cfg) (n : Nat) : Nat → Code → St → (Nat → St → R) → R
  | 0, _, _, _ => none
  | f + 1, c, σ, k =>
    match c with
    | .skip => k 0 σ
    | .label _ => k 0 σ
    | .ret => k 1 σ
    | .exit id => k (id + 2) σ
    | .seq a b => evalR cfg n f a σ fun j σ' => bif Nat.beq j 0 then evalR cfg n f b σ' k else k j σ'
    | .block id c => evalR cfg n f c σ fun j σ' => bif Nat.beq j (id + 2) then k 0 σ' else k j σ'
    | .cond c x y => (match ev σ c with
      | .c (.v (.bool b)) => cond b (evalR cfg n f x σ k) (evalR cfg n f y σ k)
      | _ => none)
    | .region id ops draw => test (ops.all fun o => !isDefer o.op)
        (bif draw then drawK cfg n id ops ops.toList 0 [] [] σ (k 0) else opsK cfg n id ops ops.toList 0 σ (k 0))
    | _ => none

def exitOf : Nat → Exit
  | 0 => .normal
  | 1 => .ret
  | j + 2 => .exit j

section
variable {P : Program} {cfg : Cfg} {M : Nat → Prop} {B : Nat} {O : Nat → Nat → Prop} {n : Nat}

/-- How a piece of code ends, as the ideal machine has told it. -/
def PostR (M : Nat → Prop) (B : Nat) (O : Nat → Nat → Prop) (n : Nat) (D : List Deferred) (x : Xs) (w : World) (k : Nat → St → R) (r : IV × List (Nat × Box)) : Exit → Act → World → Prop :=
  fun e A w' => ∃ j x' σ' a', e = exitOf j ∧ A = addD a' D ∧ Ext x w x' w' ∧ Fr M B w w' ∧ Rel M B O n x' σ' a' w' ∧ k j σ' = some r

theorem PostR.more {D : List Deferred} {x x' : Xs} {w w' : World} {k : Nat → St → R} {r : IV × List (Nat × Box)} (he : Ext x w x' w') (hf : Fr M B w w') {e : Exit} {A : Act} {W : World} (h : PostR M B O n D x' w' k r e A W) : PostR M B O n D x w k r e A W := by
  obtain ⟨j, x2, σ2, a2, h1, h2, h3, h4, h5, h6⟩ := h
  exact ⟨j, x2, σ2, a2, h1, h2, he.trans h3, hf.trans h4, h5, h6⟩

theorem regionR_sound (hcfg : CfgOK P cfg) {id : Nat} {ops : Array Oper} {draw : Bool} {k : Nat → St → R} {r : IV × List (Nat × Box)} {x : Xs} {σ : St} {a : Act} {w : World} (hnd : (ops.all fun o => !isDefer o.op) = true) (rel : Rel M B O n x σ a w)
    (H : (bif draw then drawK cfg n id ops ops.toList 0 [] [] σ (k 0) else opsK cfg n id ops ops.toList 0 σ (k 0)) = some r) (ro : Option Nat) (d : Nat) (D : List Deferred) :
    (Code.region id ops draw).wpIn (FR ro) d P (PostR M B O n D x w k r) (addD a D) w := by
  have hnd' : ∀ (i : Nat) (o : Oper), ops[i]? = some o → isDefer o.op = false := fun i o ho => by
    have := Array.all_eq_true_iff_forall_mem.1 hnd o (Array.mem_of_getElem? ho)
    simpa using this
  let Q0 : Exit → Act → World → Prop := fun e a' w' => e = Exit.normal ∧ ∃ x' σ', Ext x w x' w' ∧ Fr M B w w' ∧ Rel M B O n x' σ' a' w' ∧ k 0 σ' = some r
  have hQ : ¬ LetsOut Q0 := fun h => by
    obtain ⟨a', w', h, _⟩ := h
    cases h
  have hup : ∀ e A W, upDQ D Q0 e A W → PostR M B O n D x w k r e A W := fun e A W ⟨a', e1, e2, x', σ', h1, h2, h3, h4⟩ => ⟨0, x', σ', a', e2, e1, h1, h2, h3, h4⟩
  refine wpIn_mono ?_ hup
  cases draw with
  | true =>
    refine wpIn_region_any hcfg.mixed ?_
    exact wpAnyIn_of hQ ro d hnd' _ _ _ _ (draw_any hcfg rel H (fun x' σ' a' w' h1 h2 h3 h4 => ⟨rfl, x', σ', h1, h2, h3, h4⟩))
  | false =>
    refine wpIn_region (wpOpsIn_of hQ ro d hnd' _ _ _ ?_)
    have := opsK_sound (Q := Q0)
      hcfg ops.toList 0 x σ a w rfl rel H (fun x' σ' a' w' h1 h2 h3 h4 => ⟨rfl, x', σ', h1, h2, h3, h4⟩)
    rw [List.range_eq_range']
    simpa using this

theorem evalR_sound (hcfg : CfgOK P cfg) (ro : Option Nat) (d : Nat) (D : List Deferred) : ∀ (f : Nat) (c : Code) (x : Xs) (σ : St) (a : Act) (w : World) (k : Nat → St → R) (r : IV × List (Nat × Box)), Rel M B O n x σ a w → evalR cfg n f c σ k = some r →
    c.wpIn (FR ro) d P (PostR M B O n D x w k r) (addD a D) w
  | 0, _, _, _, _, _, _, _, _, H => by cases H
  | f + 1, c, x, σ, a, w, k, r, rel, H => by
    have now : ∀ {j : Nat}, k j σ = some r → PostR M B O n D x w k r (exitOf j) (addD a D) w := fun h => ⟨_, x, σ, a, rfl, rfl, Ext.refl _ _, Fr.refl _ _ _, rel, h⟩
    cases c with
    | skip => exact wpIn_skip (now H)
    | label l => exact wpIn_label (now H)
    | ret => exact wpIn_ret (now (j := 1) H)
    | exit id => exact wpIn_exit (now (j := id + 2) H)
    | seq c1 c2 =>
      refine wpIn_seq (wpIn_mono (evalR_sound hcfg ro d D f c1 x σ a w _ r rel H) ?_)
      rintro e A W ⟨j, x', σ', a', rfl, rfl, h1, h2, h3, h4⟩
      cases j with
      | zero => exact wpIn_mono (evalR_sound hcfg ro d D f c2 x' σ' a' W k r h3 h4) fun e A W h => h.more h1 h2
      | succ j =>
        have h4 : k (j + 1) σ' = some r := h4
        cases j with
        | zero => exact ⟨1, x', σ', a', rfl, rfl, h1, h2, h3, h4⟩
        | succ j => exact ⟨j + 2, x', σ', a', rfl, rfl, h1, h2, h3, h4⟩
    | block id c1 =>
      refine wpIn_block (wpIn_mono (evalR_sound hcfg ro d D f c1 x σ a w _ r rel H) ?_)
      rintro e A W ⟨j, x', σ', a', rfl, rfl, h1, h2, h3, h4⟩
      cases hj : Nat.beq j (id + 2) with
      | true =>
        have e := Nat.eq_of_beq_eq_true hj
        subst e
        simp only [hj, cond_true] at h4
        show if id = id then _ else _
        rw [if_pos rfl]
        exact ⟨0, x', σ', a', rfl, rfl, h1, h2, h3, h4⟩
      | false =>
        simp only [hj, cond_false] at h4
        match j, hj with
        | 0, _ => exact ⟨0, x', σ', a', rfl, rfl, h1, h2, h3, h4⟩
        | 1, _ => exact ⟨1, x', σ', a', rfl, rfl, h1, h2, h3, h4⟩
        | j + 2, hj =>
          have hne : j ≠ id := fun e => by
            subst e
            rw [Nat.beq_refl] at hj
            cases hj
          show if j = id then _ else _
          rw [if_neg hne]
          exact ⟨j + 2, x', σ', a', rfl, rfl, h1, h2, h3, h4⟩
    | cond o c1 c2 =>
      simp only [evalR] at H
      split at H
      · rename_i t ht
        have hv := rel.ev o
        rw [ht] at hv
        obtain ⟨hv, _⟩ := iv_v hv
        have hv : (addD a D).eval o = .bool t := by rw [addD_eval]; exact hv
        cases t with
        | true => exact wpIn_cond_true hv (evalR_sound hcfg ro d D f c1 x σ a w k r rel H)
        | false => exact wpIn_cond_false hv (evalR_sound hcfg ro d D f c2 x σ a w k r rel H)
      · cases H
    | region id ops draw =>
      obtain ⟨hnd, H⟩ := test_some H
      exact regionR_sound hcfg hnd rel H ro d D
    | _ => cases H

end
end Go.Proofs.YtlakpbfmcnlnbaaDoor.VE
