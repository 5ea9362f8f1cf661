/-
  What a function that holds a range over a function returns.
-/
import Derived.Test.YtlakpbfmcnlnbaaDoorVTu
namespace Go.Proofs.YtlakpbfmcnlnbaaDoor.VE
open Go Go.RowKit

section
variable {M : Nat → Prop} {B : Nat} {O : Nat → Nat → Prop} {x : Xs} {h : Nat → Option Box} {u : Nat → Bool} {w w' : World}

/-- A block that is no cells, and nobody's, may be turned, maps or not. -/
theorem HRel.turned (rel : HRel M B O x h u w) {l : Nat} {o0 : Obj} (hl : w.heap[l]? = some o0) (hc : o0.isCells = false) (hok : ∀ b o, x.okp b o → b ≠ l) (hB : l < B) (hM : ¬ M l) (hg : w.grownBy w' (some l)) :
    HRel M B O x h u w' ∧ Ext x w x w' := by
  have hcell : ∀ b o, x.okp b o ∨ x.ok b o → w'.cell? ⟨b, o, none⟩ = w.cell? ⟨b, o, none⟩ := fun b o hb => by
    have hp : x.okp b o := hb.elim id (rel.okp b o)
    exact World.cell?_of_block (hg.block b (rel.old b o hp) fun e => hok b o hp (by cases e; rfl))
  have ext : Ext x w x w' := ⟨fun _ _ h => h, fun _ _ h => h, fun _ _ h => h, hcell⟩
  refine ⟨{ rel with
    box := fun id b hb => ?_
    old := fun b o hb => Nat.lt_of_lt_of_le (rel.old b o hb) hg.size
    big := Nat.le_trans rel.big hg.size
    laid := rel.laid.ext ext }, ext⟩
  obtain ⟨q, h1, h2⟩ := rel.box id b hb
  refine ⟨q, h1, h2.ext ext fun k hk => ?_⟩
  obtain ⟨o, e1⟩ := h2.blk hk
  refine hg.block k (Array.getElem?_eq_some_iff.1 e1).1 fun e => ?_
  have e : k = l := Option.some.inj e
  rw [e] at hk
  cases hh : b.hot with
  | true =>
    rcases (rel.own id b q l hb hh h1 hk).1 with h3 | h3
    · omega
    · exact hM h3
  | false =>
    obtain ⟨o', e3, e4⟩ := h2.cellsAt (fun κ τ es c e => by rw [e] at hh; cases hh) hk
    rw [hl] at e3
    cases e3
    rw [hc] at e4
    cases e4
end

theorem returns_of_evalF {P : Program} {cfg : Cfg} (hcfg : CfgOK P cfg) (hfin : cfg.more.fin = none) {g : FuncId} {fn : Func} {c : Code} (hf : P.funcs[g]? = some fn) (hb : fn.body = some c) {args : List IV} (hl : args.length ≤ fn.ntmps)
    {rf : RFK} {m d : Nat} {r : IV}
    (hrf : ∀ (w0 : World) (us : Array Value) (ok : Nat → Nat → Prop), (∀ b o, ok b o → b < w0.heap.size) → Laid ok w0 → us.size = args.length → (∀ j c, args[j]? = some c → IVRel (outside ok w0) w0 (us.getD j undef) c) →
      ∀ (gg : Operand) (ps : Array Tmp) (as bd : Code), Code.rangeFunc gg ps as bd ∈ rfs c → ∀ (x : Xs) (σ : St) (a : Act) (w : World) (k : Bool → Nat → St → R) (r : IV × List (Nat × Box)), At cfg fn.ntmps (fun _ => False) w0.heap.size ok (outside ok w0) w0 false x σ a [] w → rf (.rangeFunc gg ps as bd) σ (k true) = some r →
        (Code.rangeFunc gg ps as bd).wpIn (FR none) d P (PostF cfg fn.ntmps (fun _ => False) w0.heap.size ok (outside ok w0) w0 k r) a w)
    (H : evalF cfg fn.ntmps rf m c false (enter args) (fun _ j σ => test (Nat.ble j 1) (fin cfg fn.results.toList σ)) = some (r, [])) : Returns P g args r := by
  intro w us ok hok hlaid hus ha
  let a : Act := { tmps := us ++ Array.replicate (fn.ntmps - us.size) undef, defers := [] }
  have rel : Rel (fun _ => False) w.heap.size ok fn.ntmps (outside ok w) (enter args) a w :=
    ⟨by simp [a, hus]; omega, fun i => args_start hus ha i, ⟨fun id b hb => (by cases hb), fun i j bi bj qi qj k hi => (by cases hi), fun i bi qi k hi => (by cases hi), fun id q hq => (by cases hq), hok, fun _ _ h => h, Nat.le_refl _, fun _ _ h => .inl h, hlaid⟩, rfl⟩
  have at0 : At cfg fn.ntmps (fun _ => False) w.heap.size ok (outside ok w) w false (outside ok w) (enter args) a [] w :=
    ⟨⟨_, _, _, ⟨Nat.le_refl _, fun k h => .inr h, fun b o h => .inl h⟩, rel, fun _ => rfl, fun h => (by cases h)⟩, Ext0.refl _ _, Fr.refl _ _ _⟩
  have key := evalF_sound (P := P) hcfg d (hrf w us ok hok hlaid hus ha) m c (fun _ h => h) false _ _ a [] w _ _ at0 H
  rw [addD_nil] at key
  have htab : ∀ p, p ∈ tabCells → p.1 < w.heap.size := fun p hp => hok _ _ (hlaid p hp).1
  have ends : ∀ {x : Xs} {σ : St} {b : Act} {W : World} {M : Nat → Prop} {B : Nat} {O : Nat → Nat → Prop}, Within (fun _ => False) w.heap.size ok M B O → Rel M B O fn.ntmps x σ b W → Ext0 (outside ok w) w x W → Fr (fun _ => False) w.heap.size w W → fin cfg fn.results.toList σ = some (r, []) →
      ∃ v, (results fn b.tmps).run P W = .ok v W ∧ ∃ v', Ending.returned v = .returned v' ∧ Below w.heap.size w W ∧ IVRel (inside (okNew ok w W)) W v' r := by
    intro x σ b W M B O wi rel he hf hk
    obtain ⟨v, x', h1, h2, h3, h4⟩ := fin_sound (fn := fn) hcfg (M := fun _ => False) (B := w.heap.size) (O := ok) ⟨rel.size, rel.tmps, wi.rel rel.heap, rel.defers⟩ hk
    unfold EndOf at h4
    rw [hfin] at h4
    obtain ⟨h6, h7, h8, h9⟩ := h4
    refine ⟨v, h1, v, rfl, ⟨hf.os, hf.tape, hf.output, hf.size, fun k hk => hf.block k hk (fun h => h)⟩, ?_⟩
    refine h8 _ fun k o hko => ?_
    rcases h7 k o hko with h | h | h
    · exact .inl h
    · exact .inr ⟨h, h6 k o hko⟩
    · exact h.elim
  refine callsIn_wide.1 (callsIn_of_wp_marks (F := FR none) (n := d) hf hb trivial (wpIn_mono key ?_))
  rintro e A W ⟨used, j, x, σ, b, D, rfl, rfl, at1, hk⟩
  obtain ⟨hj, hk2⟩ := test_some hk
  clear hk
  have hj : j ≤ 1 := Nat.le_of_ble_eq_true hj
  obtain ⟨M, B, O, wi, rel1, hu1, hu2⟩ := at1.st
  have goal : LeavesInM (FR none) d P fn (addD b D).tmps (fun e w' => ∃ v, e = .returned v ∧ Below w.heap.size w w' ∧ IVRel (inside (okNew ok w w')) w' v r) (addD b D).defers .returning W := by
    have hD : (addD b D).defers = D := by unfold addD; rw [rel1.defers]; rfl
    rw [hD]
    cases used with
    | false =>
      have := hu1 rfl
      subst this
      exact ends (b := b) wi rel1 at1.ext at1.fr hk2
    | true =>
      obtain ⟨Dk, rfl, g2, g3, g4, g5⟩ := hu2 rfl
      have hth := rel1.heap.thinned (B0 := w.heap.size) htab
      have hg := grownBy_putObj' W Dk (.deferred none)
      obtain ⟨t1, t2⟩ := hth.turned g3 rfl (fun b o hb hbd => by
        rcases okC_thinned b o hb with h | ⟨ob, k1, k2⟩
        · omega
        · rw [hbd, g3] at k1
          cases k1
          cases k2) g4 g5 hg
      refine ⟨by simp, .inl ⟨Dk, _, rfl, run_takeDeferred g3, ?_⟩⟩
      refine ends (b := b) (W := W.putObj Dk (.deferred none)) wi ⟨rel1.size, fun i => (rel1.tmps i).thinned.ext t2, t1, rel1.defers⟩ ((at1.ext.thinned fun b o hb => hb.elim id (hok b o)).trans t2.zero) (at1.fr.trans ⟨hg.os, hg.tape, hg.output, hg.size, fun k hk _ => hg.block k ?_ fun e => ?_⟩) hk2
      · exact Nat.lt_of_lt_of_le hk (Nat.le_trans g2 (Nat.le_of_lt (Array.getElem?_eq_some_iff.1 g3).1))
      · cases e
        omega
  match j, hj with
  | 0, _ => exact goal
  | 1, _ => exact goal

end Go.Proofs.YtlakpbfmcnlnbaaDoor.VE
