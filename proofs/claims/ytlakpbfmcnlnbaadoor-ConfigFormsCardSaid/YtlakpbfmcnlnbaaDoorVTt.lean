/-
  A range over a function: its rounds run as the ideal machine does, over the iterator's contract.
-/
import Derived.Test.YtlakpbfmcnlnbaaDoorVTs
namespace Go.Proofs.YtlakpbfmcnlnbaaDoor.VE
open Go Go.RowKit

/-- The jump that a round has asked for, by its number. -/
def codeOf : Nat → Code
  | 0 => .skip
  | 1 => .ret
  | j + 2 => .exit j

/-- No round ahead of the last one has been left by a jump. -/
def Went {α : Type} (jn : List α → Nat) (pre : List α) : Prop := ∀ p v t, pre = p ++ v :: t → t ≠ [] → jn (p ++ [v]) = 0
/-- No round has. -/
def WentAll {α : Type} (jn : List α → Nat) (pre : List α) : Prop := ∀ p v t, pre = p ++ v :: t → jn (p ++ [v]) = 0
theorem WentAll.snoc {α : Type} {jn : List α → Nat} {pre : List α} {v : α} (h : WentAll jn pre) : Went jn (pre ++ [v]) := fun p u t e ht => by
  rcases List.eq_nil_or_concat t with rfl | ⟨t', z, rfl⟩
  · exact absurd rfl ht
  · have e' : pre ++ [v] = (p ++ u :: t') ++ [z] := by rw [e]; simp
    have := List.append_inj_left' e' rfl
    exact h p u t' this
theorem Went.all {α : Type} {jn : List α → Nat} {pre : List α} {v : α} (h : Went jn (pre ++ [v])) (h0 : jn (pre ++ [v]) = 0) : WentAll jn (pre ++ [v]) := fun p u t e => by
  rcases List.eq_nil_or_concat t with rfl | ⟨t', z, rfl⟩
  · have := List.append_inj' e rfl
    rw [← e]; exact h0
  · exact h p u _ e (by simp)

section
variable {P : Program} {cfg : Cfg} {M : Nat → Prop} {B : Nat} {O : Nat → Nat → Prop} {n : Nat} {α : Type}

/-- How a range over a function ends: through (all of it), or left by a jump; the mark of what rounds have put off lies on top. -/
def PostL (cfg : Cfg) (M : Nat → Prop) (B : Nat) (O : Nat → Nat → Prop) (D : List Deferred) (x0 : Xs) (w0 : World) (a : Act) (S Sp : List α → Prop) (jn : List α → Nat) (hs : List α → Nat → Option Box) (us : List α → Nat → Bool) : Exit → Act → World → Prop :=
  fun e A W => ∃ (Dk : Nat) (pre : List α), w0.heap.size ≤ Dk ∧ W.heap[Dk]? = some (.deferred (some [])) ∧ A = addD a ({ target := .collected Dk, args := #[] } :: D) ∧
    LoopSt cfg.more.objs M B O x0 w0 (hs pre) (us pre) W ∧ ((S pre ∧ e = .normal ∧ WentAll jn pre) ∨ (Sp pre ∧ jn pre ≠ 0 ∧ e = exitOf (jn pre) ∧ Went jn pre))

theorem Ext0.thinned {x y : Xs} {w w' : World} (e : Ext0 x w y w') (hold : ∀ b o, x.okp b o ∨ x.ok b o → b < w.heap.size) : Ext0 x w (thinX w.heap.size y w') w' :=
  ⟨fun b o h => ⟨e.ok b o h, .inl (hold b o (.inr h))⟩, fun b o h => ⟨e.okp b o h, .inl (hold b o (.inl h))⟩, e.cell⟩

theorem rangeFunc_rule (hcfg : CfgOK P cfg) {x0 : Xs} {σ : St} {a : Act} {w : World} (rel : Rel M B O n x0 σ a w) (D : List Deferred) {d : Nat} (h1 : 1 ≤ d)
    {g : Operand} {ps : Array Tmp} {assign body : Code} {gf : Nat} {lb : Array Value} (hg : a.eval g = .func (.func gf) #[] lb) (eg : ∀ args w, (callFunc gf args).run P w = .ok (.enter gf args) w)
    {encs : α → Array Value} {S Sp : List α → Prop} {N : Nat} (hseq : SeqStopsK (FR none) (d - 1) P gf lb encs (Fr M B) S Sp N w) (hps : ∀ v, (encs v).size = ps.size)
    (a₁ : α → Act) (hassign : ∀ (l : Nat) (v : α) (W : World) (K : Act → World → Prop), K (a₁ v) W →
      assign.wpIn ((FR none).inRound l) (d - 1 - 1) P (Exit.then K (fun _ _ _ => False)) { tmps := (ps.zip (encs v)).foldl (fun t (p, v) => t.setIfInBounds p v) (addD a D).tmps, defers := [] } W)
    (tB : α → Nat → IV) (ha1 : ∀ v, (a₁ v).tmps.size = n ∧ (a₁ v).defers = [])
    (htB : ∀ (v : α) (y : Xs) (W : World), (∀ i, IVRel y W (a.tmps.getD i undef) (σ.t i)) → ∀ i, IVRel y W ((a₁ v).tmps.getD i undef) (tB v i))
    (hlive : ∀ i, objV cfg.more.objs (σ.t i) = true) (htab : ∀ p, p ∈ tabCells → p.1 < w.heap.size)
    (hs : List α → Nat → Option Box) (us : List α → Nat → Bool) (h0 : hs [] = σ.h) (u0 : us [] = σ.u) (hm : ∀ pre, NoMap (hs pre)) (jn : List α → Nat) (L : Live)
    (hround : ∀ (pre : List α) (v : α), pre.length < N → ∃ (tE : Nat → IV) (f : Nat), ∀ k : Nat → St → R, evalR cfg n f body ⟨tB v, hs pre, us pre⟩ (fun j σ' => keepK cfg.more.objs L σ' (k j)) = k (jn (pre ++ [v])) ⟨tE, hs (pre ++ [v]), us (pre ++ [v])⟩) :
    (Code.rangeFunc g ps assign body).wpIn (FR none) d P (PostL cfg M B O D x0 w a S Sp jn hs us) (addD a D) w := by
  classical
  have hold : ∀ b o, x0.okp b o ∨ x0.ok b o → b < w.heap.size := fun b o h => rel.heap.old b o (h.elim id (rel.heap.okp b o))
  have hdef : ∀ Dk : Nat, ({ addD a D with defers := { target := .collected Dk, args := #[] } :: (addD a D).defers } : Act) = addD a ({ target := .collected Dk, args := #[] } :: D) := fun Dk => by
    unfold addD
    rw [rel.defers]
    rfl
  refine wpIn_rangeFunc_ownF (F := FR none) (α := α) rfl h1 (by rw [addD_eval]; exact hg) trivial eg hseq (fun h k => Fr.trans h k) ?hKb (Below.refl _ _) hps
    (fun pre W => WentAll jn pre ∧ LoopSt cfg.more.objs M B O x0 w (hs pre) (us pre) W)
    (fun c pre W => (jn pre ≠ 0 ∧ Went jn pre) ∧ c = codeOf (jn pre) ∧ LoopSt cfg.more.objs M B O x0 w (hs pre) (us pre) W)
    (fun pre W W' row h hg hr => ⟨h.1, h.2.grown rel.heap.big (hm pre) hg hr⟩)
    (fun c pre W W' row h hg hr => ⟨h.1, h.2.1, h.2.2.grown rel.heap.big (hm pre) hg hr⟩)
    ?h0 a₁ hassign ?body ?done ?stop
  case hKb =>
    intro W l o o' hl ho _ _
    have hlt := (Array.getElem?_eq_some_iff.1 ho).1
    have hg := grownBy_putObj' W l o'
    have hbig := rel.heap.big
    exact ⟨hg.os, hg.tape, hg.output, hg.size, fun k hk _ => hg.block k (by omega) fun e => by cases e; omega⟩
  case h0 =>
    refine ⟨fun p v t e => absurd e (by simp), x0, Ext0.refl _ _, fun _ _ _ h => h, Fr.refl _ _ _, ?_, fun b o h => .inl (hold b o (.inl h))⟩
    rw [h0, u0]
    exact rel.heap
  case body =>
    intro l pre v W hI hlen
    obtain ⟨hwent, y, e1, e2, e3, e4, e5⟩ := hI
    have hw2 := hwent.snoc (v := v)
    have relB : Rel (Owned y (hs pre)) W.heap.size y.ok n y ⟨tB v, hs pre, us pre⟩ (a₁ v) W :=
      ⟨(ha1 v).1, fun i => htB v y W (fun i => (rel.tmps i).objs e1 e2 (hlive i)) i, e4.rebase, (ha1 v).2⟩
    have wi := e4.within
    obtain ⟨tE, f, hk⟩ := hround pre v hlen
    let k : Nat → St → R := fun j σ'' => if j = jn (pre ++ [v]) ∧ σ'' = ⟨tE, hs (pre ++ [v]), us (pre ++ [v])⟩ then some (.tup [], []) else none
    have H : evalR cfg n f body ⟨tB v, hs pre, us pre⟩ (fun j σ' => keepK cfg.more.objs L σ' (k j)) = some (.tup [], []) := by
      rw [hk k]
      exact if_pos ⟨rfl, rfl⟩
    have key := evalR_sound hcfg (some l) (d - 1 - 1) [] f body y _ (a₁ v) W _ _ relB H
    rw [addD_nil] at key
    refine wpIn_mono key ?_
    rintro e A W' ⟨j, y', σ', a', rfl, rfl, g1, g2, g3, g4⟩
    obtain ⟨σ'', y'', k1, k2, k3, k4⟩ := keepK_sound g3 g4
    have hσ : j = jn (pre ++ [v]) ∧ σ'' = ⟨tE, hs (pre ++ [v]), us (pre ++ [v])⟩ := by
      by_cases h : j = jn (pre ++ [v]) ∧ σ'' = ⟨tE, hs (pre ++ [v]), us (pre ++ [v])⟩
      · exact h
      · have : k j σ'' = none := if_neg h
        rw [this] at k1
        cases k1
    obtain ⟨hj, rfl⟩ := hσ
    have st : LoopSt cfg.more.objs M B O x0 w (hs (pre ++ [v])) (us (pre ++ [v])) W' :=
      ⟨thinX w.heap.size y'' W', ((e1.trans g1.zero).trans k3).thinned hold, fun i hi q hq => (k4 i hi).trans (g1.g i q (e2 i hi q hq)), e3.trans (wi.fr g2), (wi.rel k2.heap).thinned htab, okC_thinned⟩
    have ko : KeepsOthers W W' := e4.others (hm pre) g2
    match j, hj with
    | 0, hj => exact ⟨ko, wi.fr g2, hw2.all hj.symm, st⟩
    | 1, hj => exact ⟨ko, ⟨by rw [← hj]; exact Nat.one_ne_zero, hw2⟩, by rw [← hj]; rfl, st⟩
    | j + 2, hj => exact ⟨ko, ⟨by rw [← hj]; omega, hw2⟩, by rw [← hj]; rfl, st⟩
  case done =>
    intro Dk xs W hsz hS hI hK
    exact ⟨Dk, xs, hsz, hK, hdef Dk, hI.2, .inl ⟨hS, rfl, hI.1⟩⟩
  case stop =>
    intro Dk c pre W hsz hSp hI hK
    obtain ⟨⟨hj, hwt⟩, rfl, hst⟩ := hI
    have post : PostL cfg M B O D x0 w a S Sp jn hs us (exitOf (jn pre)) { addD a D with defers := { target := .collected Dk, args := #[] } :: (addD a D).defers } W :=
      ⟨Dk, pre, hsz, hK, hdef Dk, hst, .inr ⟨hSp, hj, rfl, hwt⟩⟩
    revert post
    match hjn : jn pre with
    | 0 => exact absurd hjn hj
    | 1 => exact fun post => wpIn_ret post
    | j + 2 => exact fun post => wpIn_exit post

end
end Go.Proofs.YtlakpbfmcnlnbaaDoor.VE
