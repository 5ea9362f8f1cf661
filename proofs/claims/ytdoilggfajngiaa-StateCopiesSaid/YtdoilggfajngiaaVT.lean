/-
  The run of a body, and the law of a function that only computes.
-/
import Derived.Test.YtdoilggfajngiaaVS
import Derived.Scope
namespace Go.Proofs.Ytdoilggfajngiaa.VE
open Go Go.RowKit

section
variable {P : Program} {cfg : Cfg} {M : Nat → Prop} {B : Nat} {O : Nat → Nat → Prop} {n : Nat} {fn : Func} {b : Frame}

def Ends (P : Program) (cfg : Cfg) (M : Nat → Prop) (B : Nat) (O : Nat → Nat → Prop) (b : Frame) (r : IV × List (Nat × Box)) (x : Xs) (w : World) (a : Act) (todo : List Item) : Prop :=
  ∀ cs, ∃ v x' w' fr, Steps P (lone (b.at a todo) cs w) (lone fr cs w') ∧ fr.fn = b.fn ∧ fr.leaving P w' (.returned v) ∧ Ext0 x w x' w' ∧ Fr M B w w' ∧
    (∀ i, i ∈ cfg.more.objs → ∀ q, x.g i = some q → x'.g i = some q) ∧ EndOf cfg M B O r x' w' v

theorem Ends.step {r : IV × List (Nat × Box)} {x x' : Xs} {w w' : World} {a a' : Act} {todo todo' : List Item} (hs : ∀ cs, Steps P (lone (b.at a todo) cs w) (lone (b.at a' todo') cs w')) (he : Ext0 x w x' w') (hf : Fr M B w w')
    (ho : ∀ i, i ∈ cfg.more.objs → ∀ q, x.g i = some q → x'.g i = some q) (h : Ends P cfg M B O b r x' w' a' todo') : Ends P cfg M B O b r x w a todo := fun cs => by
  obtain ⟨v, x2, w2, fr, h1, h2, h3, h4, h5, h6, h7⟩ := h cs
  exact ⟨v, x2, w2, fr, (hs cs).trans h1, h2, h3, he.trans h4, hf.trans h5, fun i hi q hq => h6 i hi q (ho i hi q hq), h7⟩

theorem Ends.same {r : IV × List (Nat × Box)} {x : Xs} {w : World} {a : Act} {todo todo' : List Item} (hs : ∀ cs, Go.step P (lone (b.at a todo) cs w) = .next (lone (b.at a todo') cs w))
    (h : Ends P cfg M B O b r x w a todo') : Ends P cfg M B O b r x w a todo := h.step (fun cs => .one (hs cs)) (Ext0.refl x w) (Fr.refl M B w) fun _ _ _ h => h

theorem ends_fin (hcfg : CfgOK P cfg) (hfn : P.funcs[b.fn]? = some fn) (hk : b.kind = .normal) {r : IV × List (Nat × Box)} {x : Xs} {σ : St} {w : World} {a : Act} (rel : Rel M B O n x σ a w) (H : fin cfg fn.results.toList σ = some r)
    {todo todo' : List Item} (hs : ∀ cs, Go.step P (lone (b.at a todo) cs w) = .next (lone { b.at a todo' with mode := .returning } cs w)) : Ends P cfg M B O b r x w a todo := fun cs => by
  obtain ⟨v, x', h1, h2, h3, h4⟩ := fin_sound hcfg rel H
  exact ⟨v, x', w, _, .one (hs cs), rfl, ⟨rfl, rel.defers, hk, fn, hfn, h1⟩, h2, Fr.refl M B w, fun i hi q hq => (h3 i hi).trans hq, h4⟩

theorem inner_sound (hcfg : CfgOK P cfg) (hfn : P.funcs[b.fn]? = some fn) (hk : b.kind = .normal) {r : IV × List (Nat × Box)} {next : List Item → St → R}
    (hnext : ∀ todo x σ a w, Rel M B O n x σ a w → next todo σ = some r → Ends P cfg M B O b r x w a todo) :
    ∀ (m : Nat) (start : Bool) (todo : List Item) (x : Xs) (σ : St) (a : Act) (w : World), Rel M B O n x σ a w → inner cfg n fn.results.toList next m start todo σ = some r → Ends P cfg M B O b r x w a todo
  | 0, _, _, _, _, _, _, _, H => by cases H
  | m + 1, start, [], x, σ, a, w, rel, H => ends_fin hcfg hfn hk rel H fun cs => step_end
  | m + 1, start, .code c :: K, x, σ, a, w, rel, H => by
    have ih := inner_sound hcfg hfn hk hnext m
    cases c with
    | ret => exact ends_fin hcfg hfn hk rel H fun cs => step_ret
    | skip => exact .same (fun cs => step_skip) (ih _ _ x σ a w rel H)
    | label l => exact .same (fun cs => step_label) (ih _ _ x σ a w rel H)
    | seq c1 c2 => exact .same (fun cs => step_seq) (ih _ _ x σ a w rel H)
    | block id c1 => exact .same (fun cs => step_block) (ih _ _ x σ a w rel H)
    | loop c1 => exact .same (fun cs => step_loop) (ih _ _ x σ a w rel H)
    | scope c1 => exact .same (fun cs => step_scope) (ih _ _ x σ a w rel H)
    | cond o c1 c2 =>
      simp only [inner] at H
      split at H
      · rename_i t ht
        have hv := rel.ev o
        rw [ht] at hv
        obtain ⟨hv, _⟩ := iv_v hv
        cases t with
        | true => exact .same (fun cs => step_cond hv) (ih _ _ x σ a w rel H)
        | false => exact .same (fun cs => step_cond hv) (ih _ _ x σ a w rel H)
      · cases H
    | exit id =>
      simp only [inner] at H
      split at H
      · rename_i K' hK
        exact .same (fun cs => step_exit hK) (ih _ _ x σ a w rel H)
      · cases H
    | goto l =>
      simp only [inner] at H
      split at H
      · rename_i K' hK
        exact .same (fun cs => step_goto hK) (ih _ _ x σ a w rel H)
      · cases H
    | region id ops draw =>
      simp only [inner] at H
      split at H
      · obtain ⟨σ', x', h1, h2, h3, h4⟩ := keepK_sound rel H
        have he := hnext _ x' σ' a w h2 h1
        intro cs
        obtain ⟨v, x2, w2, fr, g1, g2, g3, g4, g5, g6, g7⟩ := he cs
        exact ⟨v, x2, w2, fr, g1, g2, g3, h3.trans g4, g5, fun i hi q hq => g6 i hi q ((h4 i hi).trans hq), g7⟩
      · have key : (Code.region id ops draw).wp P (fun e a' w' => e = .normal ∧ ∃ x' σ', Ext x w x' w' ∧ Fr M B w w' ∧ Rel M B O n x' σ' a' w' ∧ inner cfg n fn.results.toList next m false K σ' = some r) a w := by
          cases draw with
          | true => exact draw_sound hcfg rel H (fun x' σ' a' w' h1 h2 h3 h4 => ⟨rfl, x', σ', h1, h2, h3, h4⟩) id
          | false =>
            refine wp_region ?_
            have := opsK_sound (Q := fun e a' w' => e = .normal ∧ ∃ x' σ', Ext x w x' w' ∧ Fr M B w w' ∧ Rel M B O n x' σ' a' w' ∧ inner cfg n fn.results.toList next m false K σ' = some r)
              hcfg ops.toList 0 x σ a w rfl rel H (fun x' σ' a' w' h1 h2 h3 h4 => ⟨rfl, x', σ', h1, h2, h3, h4⟩)
            rw [List.range_eq_range']
            simpa using this
        intro cs
        obtain ⟨e, a', w', ⟨rfl, x', σ', h1, h2, h3, h4⟩, harr⟩ := key b K cs
        obtain ⟨v, x2, w2, fr, g1, g2, g3, g4, g5, g6, g7⟩ := ih _ _ x' σ' a' w' h3 h4 cs
        exact ⟨v, x2, w2, fr, Steps.trans harr g1, g2, g3, h1.zero.trans g4, h2.trans g5, fun i hi q hq => g6 i hi q (h1.g i q hq), g7⟩
    | _ => cases H
  | m + 1, start, .inBlock id :: K, x, σ, a, w, rel, H => .same (fun cs => step_inBlock) (inner_sound hcfg hfn hk hnext m _ _ x σ a w rel H)
  | m + 1, start, .inScope c :: K, x, σ, a, w, rel, H => .same (fun cs => step_inScope) (inner_sound hcfg hfn hk hnext m _ _ x σ a w rel H)
  | m + 1, start, .inLoop c :: K, x, σ, a, w, rel, H => .same (fun cs => step_inLoop) (inner_sound hcfg hfn hk hnext m _ _ x σ a w rel H)

theorem run_sound (hcfg : CfgOK P cfg) (hfn : P.funcs[b.fn]? = some fn) (hk : b.kind = .normal) {r : IV × List (Nat × Box)} :
    ∀ (m : Nat) (todo : List Item) (x : Xs) (σ : St) (a : Act) (w : World), Rel M B O n x σ a w → run cfg n fn.results.toList m todo σ = some r → Ends P cfg M B O b r x w a todo
  | 0, _, _, _, _, _, _, H => by cases H
  | m + 1, todo, x, σ, a, w, rel, H => inner_sound hcfg hfn hk (run_sound hcfg hfn hk m) _ _ todo x σ a w rel H

end

/-- A body's start. -/
def enter (args : List IV) : St := ⟨fun i => args.getD i (.c .junk), fun _ => none, fun _ => false⟩

theorem args_start {args : List IV} {us : Array Value} {m : Nat} {x : Xs} {w : World} (hus : us.size = args.length) (ha : ∀ j c, args[j]? = some c → IVRel x w (us.getD j undef) c) (i : Nat) :
    IVRel x w ((us ++ Array.replicate m undef).getD i undef) (args.getD i (.c .junk)) := by
  rw [List.getD_eq_getElem?_getD]
  cases hi : args[i]? with
  | none => exact .c _ _ (.junk _)
  | some y =>
    have hlt : i < us.size := by rw [hus]; exact (List.getElem?_eq_some_iff.1 hi).1
    have := ha i y hi
    simp only [Option.getD_some]
    have e : (us ++ Array.replicate m undef).getD i undef = us.getD i undef := by
      simp only [Array.getD_eq_getD_getElem?, Array.getElem?_append, if_pos hlt]
    rw [e]; exact this

theorem returns_of_run {P : Program} {cfg : Cfg} (hcfg : CfgOK P cfg) (hfin : cfg.more.fin = none) {g : FuncId} {fn : Func} {c : Code} (hf : P.funcs[g]? = some fn) (hb : fn.body = some c) {args : List IV} (hl : args.length ≤ fn.ntmps) {m : Nat} {r : IV}
    (H : run cfg fn.ntmps fn.results.toList m [.code c] (enter args) = some (r, [])) : Returns P g args r := by
  intro w us ok hok hlaid hus ha cs
  let b : Frame := { (default : Frame) with fn := g, kind := .normal }
  let a : Act := { tmps := us ++ Array.replicate (fn.ntmps - us.size) undef, defers := [] }
  have henter : Frame.enter P g us .normal = b.at a [.code c] := by simp [Frame.enter, Frame.at, hf, hb, b, a]
  have rel : Rel (fun _ => False) w.heap.size ok fn.ntmps (outside ok w) (enter args) a w :=
    ⟨by simp [a, hus]; omega, fun i => args_start hus ha i, ⟨fun id b hb => (by cases hb), fun i j bi bj qi qj k hi => (by cases hi), fun i bi qi k hi => (by cases hi), fun id q hq => (by cases hq), hok, fun _ _ h => h, Nat.le_refl _, fun _ _ h => .inl h, hlaid⟩, rfl⟩
  obtain ⟨v, x', w', fr, h1, h2, h3, h4, h5, _, h6⟩ := run_sound (b := b) hcfg hf rfl m _ _ _ _ _ rel H cs
  unfold EndOf at h6
  rw [hfin] at h6
  obtain ⟨h6, h7, h8, h9⟩ := h6
  rw [← henter] at h1
  refine ⟨.returned v, w', fr, ⟨v, rfl, ⟨h5.os, h5.tape, h5.output, h5.size, fun k hk => h5.block k hk (fun h => h)⟩, ?_⟩, h1, h2, h3⟩
  refine h8 _ fun k o hko => ?_
  rcases h7 k o hko with h | h | h
  · exact .inl h
  · exact .inr ⟨h, h6 k o hko⟩
  · exact h.elim

/-- A body's start, where boxes are handed over. -/
def enterO (args : List IV) (bx : List (Nat × Box)) : St := ⟨fun i => args.getD i (.c .junk), ofB bx, ofU bx⟩

theorem returnsO_of_run {P : Program} {cfg : Cfg} (hcfg : CfgOK P cfg) {F : List LK × List (Nat × List LK)} (hfin : cfg.more.fin = some F) {g : FuncId} {fn : Func} {c : Code} (hf : P.funcs[g]? = some fn) (hb : fn.body = some c) {args : List IV} (hl : args.length ≤ fn.ntmps)
    {bx bx' : List (Nat × Box)} (hobj : ∀ n ty cs, (n, Box.cells ty cs) ∈ bx → n ∈ cfg.more.objs) {m : Nat} {r : IV}
    (H : run cfg fn.ntmps fn.results.toList m [.code c] (enterO args bx) = some (r, bx')) : ReturnsO P g args bx r bx' := by
  intro w us M O x hx hus ha cs
  let b : Frame := { (default : Frame) with fn := g, kind := .normal }
  let a : Act := { tmps := us ++ Array.replicate (fn.ntmps - us.size) undef, defers := [] }
  have henter : Frame.enter P g us .normal = b.at a [.code c] := by simp [Frame.enter, Frame.at, hf, hb, b, a]
  have rel : Rel M w.heap.size O fn.ntmps x (enterO args bx) a w := ⟨by simp [a, hus]; omega, fun i => args_start hus ha i, hx, rfl⟩
  obtain ⟨v, x', w', fr, h1, h2, h3, h4, h5, h6, h7⟩ := run_sound (b := b) hcfg hf rfl m _ _ _ _ _ rel H cs
  unfold EndOf at h7
  rw [hfin] at h7
  obtain ⟨⟨u', h7⟩, h8⟩ := h7
  rw [← henter] at h1
  exact ⟨.returned v, w', fr, ⟨v, x', u', rfl, h5, h7, h8, fun n ty cs hn q hq => h6 n (hobj n ty cs hn) q hq⟩, h1, h2, h3⟩

end Go.Proofs.Ytdoilggfajngiaa.VE
