/-
  A frame within a frame; blocks that are none of the activation's.
-/
import Derived.Test.YtlakpbfmcnlnbaaDoorVTr
namespace Go.Proofs.YtlakpbfmcnlnbaaDoor.VE
open Go Go.RowKit

section
variable {M : Nat → Prop} {B : Nat} {O : Nat → Nat → Prop} {M' : Nat → Prop} {B' : Nat} {O' : Nat → Nat → Prop} {x : Xs} {h : Nat → Option Box} {u : Nat → Bool} {w w' : World}

/-- The blocks of boxes that may still be written. -/
def Owned (x : Xs) (h : Nat → Option Box) (k : Nat) : Prop := ∃ id b q, h id = some b ∧ b.hot = true ∧ x.g id = some q ∧ q.blk = some k

/-- What the inner frame may write the outer one may. -/
structure Within (M : Nat → Prop) (B : Nat) (O : Nat → Nat → Prop) (M' : Nat → Prop) (B' : Nat) (O' : Nat → Nat → Prop) : Prop where
  big : B ≤ B'
  own : ∀ k, M' k → B ≤ k ∨ M k
  ok : ∀ b o, O' b o → O b o ∨ B ≤ b ∨ M b

theorem HRel.rebase (rel : HRel M B O x h u w) : HRel (Owned x h) w.heap.size x.ok x h u w :=
  { rel with
    own := fun i bi qi k hi hh hq hk => ⟨.inr ⟨i, bi, qi, hi, hh, hq, hk⟩, (rel.own i bi qi k hi hh hq hk).2⟩
    big := Nat.le_refl _
    okb := fun _ _ h => .inl h }

theorem HRel.within (rel : HRel M B O x h u w) : Within M B O (Owned x h) w.heap.size x.ok :=
  ⟨rel.big, fun k ⟨i, b, q, h1, h2, h3, h4⟩ => (rel.own i b q k h1 h2 h3 h4).1, rel.okb⟩

theorem Within.rel (f : Within M B O M' B' O') (rel : HRel M' B' O' x h u w) : HRel M B O x h u w :=
  { rel with
    own := fun i bi qi k hi hh hq hk => ⟨(rel.own i bi qi k hi hh hq hk).1.elim (fun h => .inl (Nat.le_trans f.big h)) (f.own k), (rel.own i bi qi k hi hh hq hk).2⟩
    big := Nat.le_trans f.big rel.big
    okb := fun b o h => by
      rcases rel.okb b o h with h | h | h
      · exact f.ok b o h
      · exact .inr (.inl (Nat.le_trans f.big h))
      · exact .inr (f.own b h) }

theorem Within.fr (f : Within M B O M' B' O') (h : Fr M' B' w w') : Fr M B w w' :=
  ⟨h.os, h.tape, h.output, h.size, fun k hk hm => h.block k (Nat.lt_of_lt_of_le hk f.big) fun hm' => (f.own k hm').elim (fun h => Nat.not_lt.2 h hk) hm⟩

/-- No box is a map. -/
def NoMap (h : Nat → Option Box) : Prop := ∀ id κ τ es c, h id ≠ some (.map κ τ es c)

theorem BRel.cellsAt {q : Gh} {b : Box} (hb : BRel x w q b) (hm : ∀ κ τ es c, b ≠ .map κ τ es c) {k : Nat} (hk : q.blk = some k) : ∃ o : Obj, w.heap[k]? = some o ∧ o.isCells = true := by
  cases hb with
  | cells ty cs b vs e h1 h2 => rw [h1] at hk; cases hk; exact ⟨_, h2, rfl⟩
  | ice ty cs b vs e h1 h2 => rw [h1] at hk; cases hk; exact ⟨_, h2, rfl⟩
  | map κ τ es c => exact absurd rfl (hm κ τ es c)
  | row0 ty t h1 => rw [h1] at hk; cases hk
  | row ty t xs b vs e h1 h2 => rw [h1] at hk; cases hk; exact ⟨_, h2, rfl⟩
  | none ty t fr h1 => rw [h1] at hk; cases hk
  | arr ty t xs fr b vs e h1 h2 => rw [h1] at hk; cases hk; exact ⟨_, h2, rfl⟩

theorem HRel.cellsAt (rel : HRel M B O x h u w) (hm : NoMap h) {i : Nat} {b : Box} {q : Gh} {k : Nat} (hi : h i = some b) (hq : x.g i = some q) (hk : q.blk = some k) : ∃ o : Obj, w.heap[k]? = some o ∧ o.isCells = true := by
  obtain ⟨q', h1, h2⟩ := rel.box i b hi
  rw [hq] at h1
  cases h1
  exact h2.cellsAt (fun κ τ es c e => hm i κ τ es c (by rw [hi, e])) hk

/-- What is no cells lies as it lay. -/
theorem HRel.others (rel : HRel M B O x h u w) (hm : NoMap h) (fr : Fr (Owned x h) w.heap.size w w') : KeepsOthers w w' :=
  ⟨fr.size, fun k o hk ho => by
    refine (fr.block k (Array.getElem?_eq_some_iff.1 hk).1 fun ⟨i, b, q, h1, h2, h3, h4⟩ => ?_).trans hk
    obtain ⟨o', e1, e2⟩ := rel.cellsAt hm h1 h3 h4
    rw [hk] at e1
    cases e1
    rw [ho] at e2
    cases e2⟩

/-- Blocks may be laid, and one that is no cells turned. -/
theorem HRel.grown {row : Option Nat} (rel : HRel M B O x h u w) (hm : NoMap h) (hg : w.grownBy w' row)
    (hr : ∀ l, row = some l → (∃ o : Obj, w.heap[l]? = some o ∧ o.isCells = false) ∧ ∀ b o, x.okp b o → b ≠ l) :
    HRel M B O x h u w' ∧ Ext x w x w' ∧ ((∀ l, row = some l → B ≤ l) → Fr M B w w') := by
  have hcell : ∀ b o, x.okp b o ∨ x.ok b o → w'.cell? ⟨b, o, none⟩ = w.cell? ⟨b, o, none⟩ := fun b o hb => by
    have hp : x.okp b o := hb.elim id (rel.okp b o)
    exact World.cell?_of_block (hg.block b (rel.old b o hp) fun e => (hr b e.symm).2 b o hp rfl)
  have ext : Ext x w x w' := ⟨fun _ _ h => h, fun _ _ h => h, fun _ _ h => h, hcell⟩
  refine ⟨{ rel with
    box := fun id b hb => ?_
    old := fun b o hb => Nat.lt_of_lt_of_le (rel.old b o hb) hg.size
    big := Nat.le_trans rel.big hg.size
    laid := rel.laid.ext ext }, ext, fun hB => ⟨hg.os, hg.tape, hg.output, hg.size, fun k hk _ => hg.block k (Nat.lt_of_lt_of_le hk rel.big) fun e => Nat.not_lt.2 (hB k e.symm) hk⟩⟩
  obtain ⟨q, h1, h2⟩ := rel.box id b hb
  refine ⟨q, h1, h2.ext ext fun k hk => ?_⟩
  obtain ⟨o, e1, e2⟩ := rel.cellsAt hm hb h1 hk
  refine hg.block k (Array.getElem?_eq_some_iff.1 e1).1 fun e => ?_
  obtain ⟨o', e3, e4⟩ := (hr k e.symm).1
  rw [e1] at e3
  cases e3
  rw [e2] at e4
  cases e4

/-! ### what may be read are cells -/

/-- What may be read, as far as it was there (below B0) or is a cell. -/
def thinX (B0 : Nat) (x : Xs) (w : World) : Xs :=
  { g := x.g
    ok := fun b o => x.ok b o ∧ (b < B0 ∨ (w.cell? ⟨b, o, none⟩).isSome = true)
    okp := fun b o => x.okp b o ∧ (b < B0 ∨ (w.cell? ⟨b, o, none⟩).isSome = true) }

theorem VRel.thinned {B0 : Nat} {u : Value} {c : IC} (hv : VRel x w u c) : VRel (thinX B0 x w) w u c := by
  induction hv with
  | v u h => exact .v u h
  | junk u => exact .junk u
  | emp a cap => exact .emp a cap
  | sl t xs a cap rd hcap hnil hcell _ ih =>
    exact .sl t xs a cap rd hcap hnil (fun i hi j hj => by
      obtain ⟨ad, h1, h2, h3, h4⟩ := hcell i hi j hj
      exact ⟨ad, h1, h2, ⟨h3, .inr (by rw [h4]; rfl)⟩, h4⟩) ih
  | sref id q hg => exact .sref id q hg
  | view id wd lo n c q o hg hle ho hc => exact .view id wd lo n c q o hg hle ho hc
  | mref id q b hg hb => exact .mref id q b hg hb
  | ref id off q b hg hb => exact .ref id off q b hg hb
  | eref id wd i off q b hg hb hi => exact .eref id wd i off q b hg hb hi
  | snap cs off b base rd hfree hcell _ ih =>
    exact .snap cs off b base rd hfree (fun j hj => ⟨⟨(hcell j hj).1, .inr (by rw [(hcell j hj).2]; rfl)⟩, (hcell j hj).2⟩) ih
  | psnap cs off b base rd hfree hcell _ ih =>
    exact .psnap cs off b base rd hfree (fun j hj => ⟨⟨(hcell j hj).1, .inr (by rw [(hcell j hj).2]; rfl)⟩, (hcell j hj).2⟩) ih
  | fn f cap caps hs _ ih => exact .fn f cap caps hs ih

theorem IVRel.thinned {B0 : Nat} {u : Value} {c : IV} (hv : IVRel x w u c) : IVRel (thinX B0 x w) w u c := by
  induction hv with
  | c u c h => exact .c u c h.thinned
  | agg us cs hs h => exact .agg us cs hs fun j c hc => (h j c hc).thinned
  | tup us vs hs _ ih => exact .tup us vs hs ih

theorem cell_some {b o : Nat} {vs : Array Value} {e : TypeId} {p : Nat × Nat} (hw : w.heap[b]? = some (.cells vs e p)) (ho : o < vs.size) : (w.cell? ⟨b, o, none⟩).isSome = true := by
  simp [World.cell?, hw, ho]

theorem BRel.thinned {B0 : Nat} {q : Gh} {b : Box} (hb : BRel x w q b) : BRel (thinX B0 x w) w q b := by
  cases hb with
  | cells ty cs b vs e h1 h2 h3 h4 => exact .cells ty cs b vs e h1 h2 h3 fun j c hc => (h4 j c hc).thinned
  | ice ty cs b vs e h1 h2 h3 h4 h5 h6 => exact .ice ty cs b vs e h1 h2 h3 (fun j c hc => (h4 j c hc).thinned) h5 fun j hj => ⟨h6 j hj, .inr (cell_some h2 (by omega))⟩
  | map κ τ es c b h1 h2 => exact .map κ τ es c b h1 h2
  | row0 ty t h1 h2 => exact .row0 ty t h1 h2
  | row ty t xs b vs e h1 h2 h3 h4 h5 => exact .row ty t xs b vs e h1 h2 h3 h4 fun i el hi j c hc => (h5 i el hi j c hc).thinned
  | none ty t fr h1 h2 h3 => exact .none ty t fr h1 h2 h3
  | arr ty t xs fr b vs e h1 h2 h3 h4 h5 h6 h7 =>
    refine .arr ty t xs fr b vs e h1 h2 h3 h4 h5 (fun i el hi j c hc => (h6 i el hi j c hc).thinned) fun hf i hi j hj => ⟨h7 hf i hi j hj, .inr (cell_some h2 ?_)⟩
    rw [h5]
    have h8 : (i + 1) * width t ≤ q.cap * width t := Nat.mul_le_mul_right _ (by omega)
    rw [Nat.add_mul, Nat.one_mul] at h8
    omega

theorem HRel.thinned {B0 : Nat} (rel : HRel M B O x h u w) (htab : ∀ p, p ∈ tabCells → p.1 < B0) : HRel M B O (thinX B0 x w) h u w :=
  { box := fun id b hb => let ⟨q, h1, h2⟩ := rel.box id b hb; ⟨q, h1, h2.thinned⟩
    apart := rel.apart
    own := fun i bi qi k hi hh hq hk => ⟨(rel.own i bi qi k hi hh hq hk).1, fun o ho => (rel.own i bi qi k hi hh hq hk).2 o ho.1⟩
    used := rel.used
    okp := fun b o ho => ⟨rel.okp b o ho.1, ho.2⟩
    old := fun b o ho => rel.old b o ho.1
    big := rel.big
    okb := fun b o ho => rel.okb b o ho.1
    laid := fun p hp => ⟨⟨(rel.laid p hp).1, .inl (htab p hp)⟩, (rel.laid p hp).2⟩ }

theorem Ext.thinned {y : Xs} (e : Ext x w y w') (hold : ∀ b o, x.okp b o ∨ x.ok b o → b < w.heap.size) : Ext x w (thinX w.heap.size y w') w' :=
  ⟨e.g, fun b o h => ⟨e.ok b o h, .inl (hold b o (.inr h))⟩, fun b o h => ⟨e.okp b o h, .inl (hold b o (.inl h))⟩, e.cell⟩

/-- What may be read lies below B0, or is cells. -/
def OkC (B0 : Nat) (x : Xs) (w : World) : Prop := ∀ b o, x.okp b o → b < B0 ∨ ∃ ob : Obj, w.heap[b]? = some ob ∧ ob.isCells = true

theorem okC_thinned {B0 : Nat} : OkC B0 (thinX B0 x w) w := fun b o ho => ho.2.imp id fun h => by
  cases hc : w.cell? ⟨b, o, none⟩ with
  | none => rw [hc] at h; cases h
  | some v =>
    have := cells_of_cell hc
    exact this

/-- The state at a loop's rounds: it abides whatever blocks are laid, and the turn of one that is no cells and lies beyond. -/
def LoopSt (objs : List Nat) (M : Nat → Prop) (B : Nat) (O : Nat → Nat → Prop) (x0 : Xs) (w0 : World) (h : Nat → Option Box) (u : Nat → Bool) (W : World) : Prop :=
  ∃ x, Ext0 x0 w0 x W ∧ (∀ i, i ∈ objs → ∀ q, x0.g i = some q → x.g i = some q) ∧ Fr M B w0 W ∧ HRel M B O x h u W ∧ OkC w0.heap.size x W

theorem LoopSt.grown {objs : List Nat} {x0 : Xs} {w0 W W' : World} (hs : LoopSt objs M B O x0 w0 h u W) (hB : B ≤ w0.heap.size) (hm : NoMap h) {row : Option Nat} (hg : W.grownBy W' row)
    (hr : ∀ r, row = some r → w0.heap.size ≤ r ∧ ∃ o : Obj, W.heap[r]? = some o ∧ o.isCells = false) : LoopSt objs M B O x0 w0 h u W' := by
  obtain ⟨x, h1, h5, h2, h3, h4⟩ := hs
  have hne : ∀ r, row = some r → ∀ b o, x.okp b o → b ≠ r := fun r e b o hb hbr => by
    obtain ⟨g1, ob, g2, g3⟩ := hr r e
    rcases h4 b o hb with h | ⟨ob', g4, g5⟩
    · omega
    · rw [hbr, g2] at g4
      cases g4
      rw [g3] at g5
      cases g5
  obtain ⟨k1, k2, k3⟩ := h3.grown hm hg fun r e => ⟨(hr r e).2, hne r e⟩
  refine ⟨x, h1.trans k2.zero, h5, h2.trans (k3 fun r e => Nat.le_trans hB (hr r e).1), k1, fun b o hb => (h4 b o hb).imp id fun ⟨ob, g4, g5⟩ => ⟨ob, ?_, g5⟩⟩
  exact (hg.block b (Array.getElem?_eq_some_iff.1 g4).1 fun e => hne b e.symm b o hb rfl).trans g4

/-! ### what names nothing but objects -/

def objC0 : IC → Bool
  | .v _ | .junk | .emp | .sl _ _ | .snap _ _ | .psnap _ _ => true
  | _ => false
def objC (objs : List Nat) : IC → Bool
  | .v _ | .junk | .emp | .sl _ _ | .snap _ _ | .psnap _ _ => true
  | .ref i _ => objs.any (Nat.beq i)
  | .fn _ cap => cap.all objC0
  | _ => false
def objV (objs : List Nat) : IV → Bool
  | .c x => objC objs x
  | .agg cs => cs.all (objC objs)
  | .tup _ => false

theorem VRel.objs0 {x y : Xs} {W W' : World} (e : Ext0 x W y W') {v : Value} {c : IC} (hc : objC0 c = true) (hv : VRel x W v c) : VRel y W' v c := by
  have h1 : VRel { g := x.g, ok := y.ok, okp := y.okp } W' v c := hv.ext (show Ext x W { g := x.g, ok := y.ok, okp := y.okp } W' from ⟨fun _ _ h => h, e.ok, e.okp, e.cell⟩)
  have free : Free c → VRel y W' v c := fun hf => h1.free hf (fun _ _ h => h) fun _ _ h => h
  cases c with
  | v u => exact free (.v _)
  | junk => exact free .junk
  | emp => exact free .emp
  | sl t xs => exact free (.sl t xs)
  | snap cs off => cases h1 with | snap _ _ b base rd hfree hcell hel => exact (VRel.snap (x := { g := x.g, ok := y.ok, okp := y.okp }) (w := W') cs off b base rd hfree hcell hel).free (.snap cs off hfree) (fun _ _ h => h) fun _ _ h => h
  | psnap cs off => cases h1 with | psnap _ _ b base rd hfree hcell hel => exact (VRel.psnap (x := { g := x.g, ok := y.ok, okp := y.okp }) (w := W') cs off b base rd hfree hcell hel).free (.psnap cs off hfree) (fun _ _ h => h) fun _ _ h => h
  | _ => cases hc

theorem VRel.objs {objs : List Nat} {x y : Xs} {W W' : World} (e : Ext0 x W y W') (hg : ∀ i, i ∈ objs → ∀ q, x.g i = some q → y.g i = some q) {v : Value} {c : IC} (hc : objC objs c = true) (hv : VRel x W v c) : VRel y W' v c := by
  cases c with
  | ref i off =>
    cases hv with
    | ref _ _ q b h2 h3 => exact .ref i off q b (hg i (any_beq.1 hc) q h2) h3
  | fn f cap =>
    cases hv with
    | fn _ _ caps hs hel => exact .fn f cap caps hs fun j c hj => (hel j c hj).objs0 e (List.all_eq_true.1 hc c (List.mem_of_getElem? hj))
  | v u => exact hv.objs0 e rfl
  | junk => exact hv.objs0 e rfl
  | emp => exact hv.objs0 e rfl
  | sl t xs => exact hv.objs0 e rfl
  | snap cs off => exact hv.objs0 e rfl
  | psnap cs off => exact hv.objs0 e rfl
  | _ => cases hc

theorem IVRel.objs {objs : List Nat} {x y : Xs} {W W' : World} (e : Ext0 x W y W') (hg : ∀ i, i ∈ objs → ∀ q, x.g i = some q → y.g i = some q) {v : Value} {c : IV} (hc : objV objs c = true) (hv : IVRel x W v c) : IVRel y W' v c := by
  cases hv with
  | c _ _ h => exact .c _ _ (h.objs e hg hc)
  | agg us cs hs h => exact .agg us cs hs fun j c hj => (h j c hj).objs e hg (List.all_eq_true.1 hc c (List.mem_of_getElem? hj))
  | tup => cases hc

end
end Go.Proofs.YtlakpbfmcnlnbaaDoor.VE
