/-
  A state of the ideal machine and an activation of the model's; one operation; a region in the text's order.
-/
import Derived.Test.YtdoilggfajngiaaVN
namespace Go.Proofs.Ytdoilggfajngiaa.VE
open Go Go.RowKit

structure Rel (M : Nat → Prop) (B : Nat) (O : Nat → Nat → Prop) (n : Nat) (x : Xs) (σ : St) (a : Act) (w : World) : Prop where
  size : a.tmps.size = n
  tmps : ∀ i, IVRel x w (a.tmps.getD i undef) (σ.t i)
  heap : HRel M B O x σ.h σ.u w
  defers : a.defers = []

section
variable {P : Program} {cfg : Cfg} {M : Nat → Prop} {B key : Nat} {O : Nat → Nat → Prop} {n : Nat} {x : Xs} {σ : St} {a : Act} {w : World} {r : IV × List (Nat × Box)}

theorem Rel.ev (rel : Rel M B O n x σ a w) (X : Operand) : IVRel x w (a.eval X) (VE.ev σ X) := by
  cases X with
  | tmp t => exact rel.tmps t
  | const v =>
    show IVRel x w v (.c (cond v.oneCell' (.v v) .junk))
    cases h : v.oneCell'
    · exact .c _ _ (.junk v)
    · exact .c _ _ (.v v h)
  | func f => exact .c _ _ (.fn f [] #[] rfl fun j c hc => by simp at hc)
  | global g => exact .c _ _ (.junk _)

theorem put_tmps {d : Option Nat} {v : Value} (hd : dstOk n d = true) (hs : a.tmps.size = n) : (a.put d v).tmps.size = n ∧ (a.put d v).defers = a.defers ∧
    ∀ i, (a.put d v).tmps.getD i undef = match d with | some e => if i = e then v else a.tmps.getD i undef | none => a.tmps.getD i undef := by
  cases d with
  | none => exact ⟨hs, rfl, fun i => rfl⟩
  | some e =>
    have he : e < n := by
      have : Nat.blt e n = true := hd
      exact Nat.le_of_ble_eq_true this
    refine ⟨by simp [Act.put, hs], rfl, fun i => ?_⟩
    simp only [Act.put]
    rw [getD_ext, getD_ext]
    by_cases h : i = e
    · subst h
      rw [if_pos rfl, Array.getElem?_setIfInBounds_self_of_lt (by omega)]
      rfl
    · rw [if_neg h, Array.getElem?_setIfInBounds_ne (Ne.symm h)]

theorem Rel.put (rel : Rel M B O n x σ a w) {x' : Xs} {w' : World} (he : Ext x w x' w') {σh : Nat → Option Box} {σu : Nat → Bool} (hh : HRel M B O x' σh σu w') {d : Option Nat} (hd : dstOk n d = true) {v : Value} {y : IV} (hv : IVRel x' w' v y) :
    Rel M B O n x' (St.put ⟨σ.t, σh, σu⟩ d y) (a.put d v) w' := by
  obtain ⟨h1, h2, h3⟩ := put_tmps (a := a) (v := v) hd rel.size
  cases d with
  | none => exact ⟨h1, fun i => (rel.tmps i).ext he, hh, h2.trans rel.defers⟩
  | some e =>
    refine ⟨h1, fun i => ?_, hh, h2.trans rel.defers⟩
    rw [h3]
    show IVRel x' w' (if i = e then v else a.tmps.getD i undef) (upd σ.t e y i)
    by_cases h : i = e
    · subst h; rw [if_pos rfl, upd_same]; exact hv
    · rw [if_neg h, upd_other _ _ h]; exact (rel.tmps i).ext he

theorem restrict_sub (h : Nat → Option Box) (l : List Nat) : ∀ i b, restrict h l i = some b → h i = some b := by
  intro i b hb
  unfold restrict at hb
  cases hc : l.any (Nat.beq i) with
  | true => rw [hc] at hb; exact hb
  | false => rw [hc] at hb; cases hb

/-- One operation, guard aside. -/
theorem stepK_sound (hcfg : CfgOK P cfg) (rel : Rel M B O n x σ a w) {o : Oper} {k : Out → St → R} (H : stepK cfg n key o σ k = some r) :
    dstOk n o.dst = true ∧ ∃ out, k out (σ.apply o.dst out) = some r ∧ ∀ (next : Act → World → Prop) (Q : Exit → Act → World → Prop),
      (∀ x' a' w', Ext x w x' w' → Fr M B w w' → Rel M B O n x' (σ.apply o.dst out) a' w' → next a' w') → o.wp P a w next Q := by
  unfold stepK at H
  obtain ⟨hd, H1⟩ := test_some H
  refine ⟨hd, ?_⟩
  obtain ⟨out, h1, h2⟩ := core_sound (a := a) hcfg rel.heap (restrict_sub _ _) (vals := o.op.operands.toList.map (VE.ev σ)) (by simp) (fun j y hy => by
    rw [List.getElem?_map] at hy
    cases hj : o.op.operands.toList[j]? with
    | none => simp [hj] at hy
    | some X =>
      simp [hj] at hy; subst hy
      have := rel.ev X
      have e : (o.op.operands.toList.map a.eval).getD j undef = a.eval X := by simp only [List.getD, List.getElem?_map, hj, Option.map_some, Option.getD_some]
      rw [e]; exact this) H1
  obtain ⟨hf, h3⟩ := test_some h1
  have hf' : ∀ i, i ∈ out.news → σ.u i = false := by
    intro i hi
    have := List.all_eq_true.1 hf i hi
    simpa using this
  refine ⟨out, h3, fun next Q hn => ?_⟩
  refine h2 hf' next Q fun v w' x' he hfr hh hv => ?_
  exact hn x' _ w' he hfr (rel.put he hh hd hv)

theorem know_same {d : Nat} {b : Bool} (h : σ.t d = vb b) : σ.know d b = σ := by
  cases σ
  simp only [St.know]
  congr 1
  funext i
  by_cases hi : i = d
  · subst hi; rw [upd_same]; exact h.symm
  · rw [upd_other _ _ hi]

/-- A guard: which way it goes, in the model too. -/
theorem guardK_sound {all : Array Oper} {o : Oper} {go skip : St → R} (rel : Rel M B O n x σ a w) (H : guardK all o σ go skip = some r) :
    (go σ = some r ∧ Region.wanted o (yielded all a.tmps) = true) ∨ (skip σ = some r ∧ Region.wanted o (yielded all a.tmps) = false) := by
  unfold guardK at H
  split at H
  · rename_i hg
    exact .inl ⟨H, by simp [Region.wanted, hg]⟩
  · rename_i j want hg
    split at H
    · rename_i d hd
      have hr := rel.tmps d
      split at H
      · rename_i b hb
        rw [hb] at hr
        obtain ⟨hv, _⟩ := iv_v hr
        have hlt : d < a.tmps.size := by
          rcases Nat.lt_or_ge d a.tmps.size with h' | h'
          · exact h'
          · rw [getD_ext, Array.getElem?_eq_none h'] at hv; cases hv
        have hget : a.tmps[d]? = some (.bool b) := by
          rw [getD_ext] at hv
          rw [Array.getElem?_eq_getElem hlt] at hv ⊢
          simpa using hv
        have hy : yielded all a.tmps j = some b := by
          unfold yielded
          rw [hd]
          simp only [Option.bind_some, hget]
        have hw : Region.wanted o (yielded all a.tmps) = (b == want) := by
          simp only [Region.wanted, hg, hy]
          rfl
        have hk : σ.know d b = σ := know_same hb
        cases b <;> cases want <;> simp only [cond_true, cond_false, hk] at H <;> simp [hw, H]
      · rename_i hb
        rw [hb] at hr
        refine .inr ⟨H, ?_⟩
        have hun : a.tmps.getD d undef = .tuple #[] := by
          generalize a.tmps.getD d undef = V at hr
          cases hr with
          | tup us vs hs _ =>
            have : us = #[] := by simpa using hs
            rw [this]
        have hy : yielded all a.tmps j = none := by
          unfold yielded
          rw [hd]
          simp only [Option.bind_some]
          cases hg2 : a.tmps[d]? with
          | none => rfl
          | some V =>
            rw [getD_ext, hg2] at hun
            simp at hun
            subst hun
            rfl
        simp only [Region.wanted, hg, hy]
        rfl
      · cases H
    · cases H

theorem undef_rel (x : Xs) (w : World) : IVRel x w undef (.tup []) := .tup #[] [] rfl fun j c hc => by simp at hc

/-- A region in the text's order. -/
theorem opsK_sound (hcfg : CfgOK P cfg) {all : Array Oper} {rid : Nat} {Q : Exit → Act → World → Prop} {k : St → R} : ∀ (rest : List Oper) (i : Nat) (x : Xs) (σ : St) (a : Act) (w : World), all.toList.drop i = rest →
    Rel M B O n x σ a w → opsK cfg n rid all rest i σ k = some r →
    (∀ x' σ' a' w', Ext x w x' w' → Fr M B w w' → Rel M B O n x' σ' a' w' → k σ' = some r → Q .normal a' w') → wpOps P all Q (List.range' i rest.length) a w
  | [], i, x, σ, a, w, _, rel, H, hq => by
    simp only [List.length_nil, List.range'_zero, wpOps]
    exact hq x σ a w (Ext.refl _ _) (Fr.refl _ _ _) rel H
  | o :: rest, i, x, σ, a, w, hdrop, rel, H, hq => by
    have hi : all[i]? = some o := by
      have h1 : (all.toList.drop i)[0]? = some o := by rw [hdrop]; rfl
      rw [List.getElem?_drop] at h1
      simpa using h1
    have hdrop' : all.toList.drop (i + 1) = rest := by
      have h1 : (all.toList.drop i).drop 1 = rest := by rw [hdrop]; rfl
      rwa [List.drop_drop] at h1
    simp only [List.length_cons, List.range'_succ, wpOps, hi]
    simp only [opsK] at H
    rcases guardK_sound rel H with ⟨H1, hw⟩ | ⟨H1, hw⟩
    · rw [if_pos hw]
      left
      obtain ⟨hd, out, h1, h2⟩ := stepK_sound hcfg rel H1
      refine h2 _ _ fun x' a' w' he hf rel' => ?_
      exact opsK_sound hcfg rest (i + 1) x' _ a' w' hdrop' rel' h1 fun x2 σ2 a2 w2 e2 f2 r2 k2 => hq x2 σ2 a2 w2 (he.trans e2) (hf.trans f2) r2 k2
    · rw [if_neg (by rw [hw]; simp)]
      obtain ⟨hd, H2⟩ := test_some H1
      have rel' := rel.put (Ext.refl x w) rel.heap hd (undef_rel x w)
      exact opsK_sound hcfg rest (i + 1) x _ _ w hdrop' rel' H2 hq

end
end Go.Proofs.Ytdoilggfajngiaa.VE
