/-
  A function that holds a range over a function: code without other loops, the loop taken as a word of its own.
-/
import Derived.Test.YtlakpbfmcnlnbaaDoorVTt
import Derived.RangeFuncLeaves
import Derived.RangeFuncRecord
namespace Go.Proofs.YtlakpbfmcnlnbaaDoor.VE
open Go Go.RowKit

abbrev RFK : Type := Code → St → (Nat → St → R) → R

/-- Code without loops but one range over a function ('rf' runs it; once at most). -/
def evalF (cfg : Cfg) (n : Nat) (rf : RFK) : Nat → Code → Bool → St → (Bool → Nat → St → R) → R
  | 0, _, _, _, _ => none
  | f + 1, c, used, σ, k =>
    match c with
    | .skip => k used 0 σ
    | .label _ => k used 0 σ
    | .ret => k used 1 σ
    | .exit id => k used (id + 2) σ
    | .seq a b => evalF cfg n rf f a used σ fun u j σ' => bif Nat.beq j 0 then evalF cfg n rf f b u σ' k else k u j σ'
    | .block id c => evalF cfg n rf f c used σ fun u j σ' => bif Nat.beq j (id + 2) then k u 0 σ' else k u j σ'
    | .cond c x y => (match ev σ c with
      | .c (.v (.bool b)) => cond b (evalF cfg n rf f x used σ k) (evalF cfg n rf f y used σ k)
      | _ => none)
    | .region id ops draw => test (ops.all fun o => !isDefer o.op)
        (bif draw then drawK cfg n id ops ops.toList 0 [] [] σ (k used 0) else opsK cfg n id ops ops.toList 0 σ (k used 0))
    | .rangeFunc g ps as bd => bif used then none else rf (.rangeFunc g ps as bd) σ (k true)
    | _ => none

/-- The ranges over functions that a piece of code comes to. -/
def rfs : Code → List Code
  | .seq a b => rfs a ++ rfs b
  | .block _ c => rfs c
  | .cond _ x y => rfs x ++ rfs y
  | .rangeFunc g ps as bd => [.rangeFunc g ps as bd]
  | _ => []

section
variable {P : Program} {cfg : Cfg} {M0 : Nat → Prop} {B0 : Nat} {O0 : Nat → Nat → Prop} {n : Nat}

/-- Where a run is: within the function's frame; the loop's mark, once it is there, lies where nobody writes. -/
structure At (cfg : Cfg) (n : Nat) (M0 : Nat → Prop) (B0 : Nat) (O0 : Nat → Nat → Prop) (x0 : Xs) (w0 : World) (used : Bool) (x : Xs) (σ : St) (a : Act) (D : List Deferred) (w : World) : Prop where
  st : ∃ M B O, Within M0 B0 O0 M B O ∧ Rel M B O n x σ a w ∧ (used = false → D = []) ∧
    (used = true → ∃ Dk, D = [{ target := .collected Dk, args := #[] }] ∧ w0.heap.size ≤ Dk ∧ w.heap[Dk]? = some (.deferred (some [])) ∧ Dk < B ∧ ¬ M Dk)
  ext : Ext0 x0 w0 x w
  fr : Fr M0 B0 w0 w

def PostF (cfg : Cfg) (n : Nat) (M0 : Nat → Prop) (B0 : Nat) (O0 : Nat → Nat → Prop) (x0 : Xs) (w0 : World) (k : Bool → Nat → St → R) (r : IV × List (Nat × Box)) : Exit → Act → World → Prop :=
  fun e A w => ∃ used j x σ a D, e = exitOf j ∧ A = addD a D ∧ At cfg n M0 B0 O0 x0 w0 used x σ a D w ∧ k used j σ = some r

theorem evalF_sound (hcfg : CfgOK P cfg) (d : Nat) {x0 : Xs} {w0 : World} {rf : RFK} {T : Code → Prop}
    (hrf : ∀ (g : Operand) (ps : Array Tmp) (as bd : Code), T (.rangeFunc g ps as bd) → ∀ (x : Xs) (σ : St) (a : Act) (w : World) (k : Bool → Nat → St → R) (r : IV × List (Nat × Box)), At cfg n M0 B0 O0 x0 w0 false x σ a [] w → rf (.rangeFunc g ps as bd) σ (k true) = some r →
      (Code.rangeFunc g ps as bd).wpIn (FR none) d P (PostF cfg n M0 B0 O0 x0 w0 k r) a w) :
    ∀ (f : Nat) (c : Code), (∀ C, C ∈ rfs c → T C) → ∀ (used : Bool) (x : Xs) (σ : St) (a : Act) (D : List Deferred) (w : World) (k : Bool → Nat → St → R) (r : IV × List (Nat × Box)), At cfg n M0 B0 O0 x0 w0 used x σ a D w → evalF cfg n rf f c used σ k = some r →
    c.wpIn (FR none) d P (PostF cfg n M0 B0 O0 x0 w0 k r) (addD a D) w
  | 0, _, _, _, _, _, _, _, _, _, _, _, H => by cases H
  | f + 1, c, hT, used, x, σ, a, D, w, k, r, at0, H => by
    have now : ∀ {j : Nat}, k used j σ = some r → PostF cfg n M0 B0 O0 x0 w0 k r (exitOf j) (addD a D) w := fun h => ⟨used, _, x, σ, a, D, rfl, rfl, at0, h⟩
    cases c with
    | skip => exact wpIn_skip (now H)
    | label l => exact wpIn_label (now H)
    | ret => exact wpIn_ret (now (j := 1) H)
    | exit id => exact wpIn_exit (now (j := id + 2) H)
    | seq c1 c2 =>
      refine wpIn_seq (wpIn_mono (evalF_sound hcfg d hrf f c1 (fun C hC => hT C (List.mem_append_left _ hC)) used x σ a D w _ r at0 H) ?_)
      rintro e A W ⟨u', j, x', σ', a', D', rfl, rfl, h3, h4⟩
      match j with
      | 0 => exact evalF_sound hcfg d hrf f c2 (fun C hC => hT C (List.mem_append_right _ hC)) u' x' σ' a' D' W k r h3 h4
      | 1 => exact ⟨u', 1, x', σ', a', D', rfl, rfl, h3, h4⟩
      | j + 2 => exact ⟨u', j + 2, x', σ', a', D', rfl, rfl, h3, h4⟩
    | block id c1 =>
      refine wpIn_block (wpIn_mono (evalF_sound hcfg d hrf f c1 hT used x σ a D w _ r at0 H) ?_)
      rintro e A W ⟨u', j, x', σ', a', D', rfl, rfl, h3, h4⟩
      cases hj : Nat.beq j (id + 2) with
      | true =>
        have e := Nat.eq_of_beq_eq_true hj
        subst e
        simp only [hj, cond_true] at h4
        show if id = id then _ else _
        rw [if_pos rfl]
        exact ⟨u', 0, x', σ', a', D', rfl, rfl, h3, h4⟩
      | false =>
        simp only [hj, cond_false] at h4
        match j, hj with
        | 0, _ => exact ⟨u', 0, x', σ', a', D', rfl, rfl, h3, h4⟩
        | 1, _ => exact ⟨u', 1, x', σ', a', D', rfl, rfl, h3, h4⟩
        | j + 2, hj =>
          have hne : j ≠ id := fun e => by
            subst e
            rw [Nat.beq_refl] at hj
            cases hj
          show if j = id then _ else _
          rw [if_neg hne]
          exact ⟨u', j + 2, x', σ', a', D', rfl, rfl, h3, h4⟩
    | cond o c1 c2 =>
      simp only [evalF] at H
      split at H
      · rename_i t ht
        obtain ⟨M, B, O, _, rel, _⟩ := at0.st
        have hv := rel.ev o
        rw [ht] at hv
        obtain ⟨hv, _⟩ := iv_v hv
        have hv : (addD a D).eval o = .bool t := by rw [addD_eval]; exact hv
        cases t with
        | true => exact wpIn_cond_true hv (evalF_sound hcfg d hrf f c1 (fun C hC => hT C (List.mem_append_left _ hC)) used x σ a D w k r at0 H)
        | false => exact wpIn_cond_false hv (evalF_sound hcfg d hrf f c2 (fun C hC => hT C (List.mem_append_right _ hC)) used x σ a D w k r at0 H)
      · cases H
    | region id ops draw =>
      obtain ⟨hnd, H⟩ := test_some H
      obtain ⟨M, B, O, wi, rel, hu1, hu2⟩ := at0.st
      refine wpIn_mono (regionR_sound (k := k used) hcfg hnd rel H none d D) ?_
      rintro e A W ⟨j, x', σ', a', rfl, rfl, h1, h2, h3, h4⟩
      refine ⟨used, j, x', σ', a', D, rfl, rfl, ⟨⟨M, B, O, wi, h3, hu1, fun hu => ?_⟩, at0.ext.trans h1.zero, at0.fr.trans (wi.fr h2)⟩, h4⟩
      obtain ⟨Dk, g1, g2, g3, g4, g5⟩ := hu2 hu
      exact ⟨Dk, g1, g2, (h2.block Dk g4 g5).trans g3, g4, g5⟩
    | rangeFunc g ps as bd =>
      cases used with
      | true => cases H
      | false =>
        obtain ⟨M, B, O, wi, rel, hu1, hu2⟩ := at0.st
        have hD := hu1 rfl
        subst hD
        rw [addD_nil]
        exact hrf g ps as bd (hT _ (List.mem_singleton.2 rfl)) x σ a w k r at0 H
    | _ => cases H

/-- The loop, as a word of the evaluator: what its rule says, told in the function's frame. -/
theorem at_loop {α : Type} {x0 : Xs} {w0 : World} (hcfg : CfgOK P cfg) {x : Xs} {σ : St} {a : Act} {w : World} {S Sp : List α → Prop} {jn : List α → Nat} {hs : List α → Nat → Option Box} {us : List α → Nat → Bool}
    (hw : w0.heap.size ≤ w.heap.size) {M : Nat → Prop} {B : Nat} {O : Nat → Nat → Prop} (wi : Within M0 B0 O0 M B O) (rel : Rel M B O n x σ a w) (ext : Ext0 x0 w0 x w) (fr : Fr M0 B0 w0 w) (hlive : ∀ i, objV cfg.more.objs (σ.t i) = true) (hm : ∀ pre, NoMap (hs pre))
    {e : Exit} {A : Act} {W : World} (h : PostL cfg M B O [] x w a S Sp jn hs us e A W) :
    ∃ pre j y D, e = exitOf j ∧ A = addD a D ∧ At cfg n M0 B0 O0 x0 w0 true y ⟨σ.t, hs pre, us pre⟩ a D W ∧ ((S pre ∧ j = 0 ∧ WentAll jn pre) ∨ (Sp pre ∧ jn pre ≠ 0 ∧ j = jn pre ∧ Went jn pre)) := by
  obtain ⟨Dk, pre, g1, g2, rfl, ⟨y, e1, e2, e3, e4, e5⟩, g4⟩ := h
  have hat : At cfg n M0 B0 O0 x0 w0 true y ⟨σ.t, hs pre, us pre⟩ a [{ target := .collected Dk, args := #[] }] W := by
    refine ⟨⟨Owned y (hs pre), W.heap.size, y.ok, ?_, ⟨rel.size, fun i => (rel.tmps i).objs e1 e2 (hlive i), e4.rebase, rel.defers⟩, fun h => (by cases h), fun _ => ⟨Dk, rfl, Nat.le_trans hw g1, g2, (Array.getElem?_eq_some_iff.1 g2).1, ?_⟩⟩, ext.trans e1, fr.trans (wi.fr e3)⟩
    · have w2 := e4.within
      exact ⟨Nat.le_trans wi.big w2.big, fun k hk => (w2.own k hk).elim (fun h => .inl (Nat.le_trans wi.big h)) (wi.own k), fun b o hb => by
        rcases w2.ok b o hb with h | h | h
        · exact wi.ok b o h
        · exact .inr (.inl (Nat.le_trans wi.big h))
        · exact .inr (wi.own b h)⟩
    · rintro ⟨i, b, q, k1, k2, k3, k4⟩
      obtain ⟨ob, k5, k6⟩ := e4.cellsAt (hm pre) k1 k3 k4
      rw [g2] at k5
      cases k5
      cases k6
  rcases g4 with ⟨hS, rfl, hw⟩ | ⟨hSp, hj, rfl, hw⟩
  · exact ⟨pre, 0, y, _, rfl, rfl, hat, .inl ⟨hS, rfl, hw⟩⟩
  · exact ⟨pre, jn pre, y, _, rfl, rfl, hat, .inr ⟨hSp, hj, rfl, hw⟩⟩

end
end Go.Proofs.YtlakpbfmcnlnbaaDoor.VE
