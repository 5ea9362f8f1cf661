/-
  States copied: a row of one's own, each with pairs of its own.
-/
import Derived.Test.YtdoilggfajngiaaSX
import Derived.Deep.RegionHeld3
import Derived.Deep.DrawnRows
namespace Go.Proofs.Ytdoilggfajngiaa
open Go VE Go.RowKit

attribute [local go_sem ↓] Go.wp_at_zero Go.wp_at_succ

theorem cell_blk {w : World} {b j : Nat} {vs : Array Value} {e : TypeId} (h : w.heap[b]? = some (.cells vs e (0, 0))) (hj : j < vs.size) : w.cell? ⟨b, j, none⟩ = some (vs.getD j undef) ∧ w.frozen? ⟨b, j, none⟩ = false := by
  refine ⟨?_, Lib.frozen_of_heap h j⟩
  rw [Lib.cell_of_heap h]
  simp [Array.getD, hj]
theorem laid_below {ok : Nat → Nat → Prop} {w w' : World} (hok : ∀ b o, ok b o → b < w.heap.size) (h : Laid ok w) (hb : Below w.heap.size w w') : Laid ok w' ∧ ∀ b o, ok b o → b < w'.heap.size :=
  ⟨fun p hp => ⟨(h p hp).1, (hb.cell (p := ⟨p.1, p.2.1, none⟩) (hok _ _ (h p hp).1)).trans (h p hp).2⟩, fun b o h => Nat.lt_of_lt_of_le (hok b o h) hb.size⟩
theorem SpecOK.returns {P : Program} {g : FuncId} {sp : ISpec} (h : SpecOK P g sp) {args : List IV} {r : IV} (hsp : sp args (fun r b => some (r, b)) = some (r, [])) : VE.Returns P g args r := by
  obtain ⟨res, hk, R⟩ := h.ret args _ _ hsp
  rw [hk] at hsp
  injection hsp with hsp
  injection hsp with hsp
  exact hsp ▸ R

/-- Pairs of one's own, cell by cell. -/
def MetaC (B g : Nat) (u : Value) (w : World) : Prop :=
  ∃ a n c, u = .slice a n c ∧ n ≤ 140737488351232 ∧ (n = 0 ∨ ∃ gi, a = some ⟨gi, 0, none⟩ ∧ B ≤ gi ∧ gi ≠ g ∧ gi < w.heap.size ∧ ∀ j, j < n * 2 → (w.cell? ⟨gi, j, none⟩).isSome = true ∧ w.frozen? ⟨gi, j, none⟩ = false)
/-- A row of one's own, each with pairs of its own. -/
structure RowL (W mo : Nat) (er : Option Nat) (B g cap m : Nat) (L : List Value) (w : World) : Prop where
  base : B ≤ g
  lt : g < w.heap.size
  le : m ≤ cap
  len : L.length = m * W
  cells : ∀ j u, L[j]? = some u → w.cell? ⟨g, j, none⟩ = some u
  one : ∀ u ∈ L, u.oneCell' = true
  spare : ∀ j, j < cap * W → (w.cell? ⟨g, j, none⟩).isSome = true ∧ w.frozen? ⟨g, j, none⟩ = false
  meta_ : ∀ i, i < m → ∃ u, L[i * W + mo]? = some u ∧ MetaC B g u w
  err : ∀ o, er = some o → ∀ i, i < m → ∃ z, L[i * W + o]? = some (.int .i64 z)
def RowV (W mo : Nat) (er : Option Nat) (B : Nat) (v : Value) (m : Nat) (w : World) : Prop := (v = .slice none 0 0 ∧ m = 0) ∨ ∃ g cap L, v = .slice (some ⟨g, 0, none⟩) m cap ∧ RowL W mo er B g cap m L w

theorem MetaC.below {B g : Nat} {u : Value} {w w' : World} (h : MetaC B g u w) (hb : Below w.heap.size w w') : MetaC B g u w' := by
  obtain ⟨a, n, c, h1, h2, h3⟩ := h
  refine ⟨a, n, c, h1, h2, h3.imp id fun ⟨gi, e1, e2, e3, e4, e5⟩ => ⟨gi, e1, e2, e3, Nat.lt_of_lt_of_le e4 hb.size, fun j hj => ?_⟩⟩
  rw [hb.cell (p := ⟨gi, j, none⟩) e4, World.frozen?_of_block (a := ⟨gi, j, none⟩) (hb.block gi e4)]
  exact e5 j hj
theorem RowL.below {W mo : Nat} {er : Option Nat} {B g cap m : Nat} {L : List Value} {w w' : World} (h : RowL W mo er B g cap m L w) (hb : Below w.heap.size w w') : RowL W mo er B g cap m L w' :=
  ⟨h.base, Nat.lt_of_lt_of_le h.lt hb.size, h.le, h.len, fun j u hu => (hb.cell (p := ⟨g, j, none⟩) h.lt).trans (h.cells j u hu), h.one, fun j hj => by
    rw [hb.cell (p := ⟨g, j, none⟩) h.lt, World.frozen?_of_block (a := ⟨g, j, none⟩) (hb.block g h.lt)]
    exact h.spare j hj, fun i hi => (h.meta_ i hi).imp fun u hu => ⟨hu.1, hu.2.below hb⟩, h.err⟩
theorem RowV.below {W mo : Nat} {er : Option Nat} {B : Nat} {v : Value} {m : Nat} {w w' : World} (h : RowV W mo er B v m w) (hb : Below w.heap.size w w') : RowV W mo er B v m w' :=
  h.imp id fun ⟨g, cap, L, e, hL⟩ => ⟨g, cap, L, e, hL.below hb⟩

/-- Pairs that are new, from B2 on. -/
def MetaN (B B2 : Nat) (u : Value) (w : World) : Prop :=
  ∃ a n c, u = .slice a n c ∧ n ≤ 140737488351232 ∧ (n = 0 ∨ ∃ gi, a = some ⟨gi, 0, none⟩ ∧ B ≤ gi ∧ B2 ≤ gi ∧ gi < w.heap.size ∧ ∀ j, j < n * 2 → (w.cell? ⟨gi, j, none⟩).isSome = true ∧ w.frozen? ⟨gi, j, none⟩ = false)
theorem MetaN.at_ {B B2 g : Nat} {u : Value} {w : World} (h : MetaN B B2 u w) (hg : g < B2 ∨ w.heap.size ≤ g) : MetaC B g u w := by
  obtain ⟨a, n, c, h1, h2, h3⟩ := h
  exact ⟨a, n, c, h1, h2, h3.imp id fun ⟨gi, e1, e2, e3, e4, e5⟩ => ⟨gi, e1, e2, by omega, e4, e5⟩⟩
theorem MetaC.other {B g g' : Nat} {u : Value} {w : World} (h : MetaC B g u w) (hg : w.heap.size ≤ g') : MetaC B g' u w := by
  obtain ⟨a, n, c, h1, h2, h3⟩ := h
  exact ⟨a, n, c, h1, h2, h3.imp id fun ⟨gi, e1, e2, e3, e4, e5⟩ => ⟨gi, e1, e2, by omega, e4, e5⟩⟩
theorem MetaOK.new {B : Nat} {u : Value} {w : World} (h : MetaOK B none u w) {B0 : Nat} (h0 : B0 ≤ B) : MetaN B0 B u w := by
  obtain ⟨a, n, c, h1, h2, h3⟩ := h
  refine ⟨a, n, c, h1, h2, h3.imp id fun ⟨gi, vs, e, e1, e2, _, e4, e5⟩ => ⟨gi, e1, by omega, e2, lt_of_some e4, fun j hj => ?_⟩⟩
  obtain ⟨k1, k2⟩ := cell_blk (j := j) e4 (by omega)
  exact ⟨by rw [k1]; rfl, k2⟩
theorem MetaN.below {B B2 : Nat} {u : Value} {w w' : World} (h : MetaN B B2 u w) (hb : Below w.heap.size w w') : MetaN B B2 u w' := by
  obtain ⟨a, n, c, h1, h2, h3⟩ := h
  refine ⟨a, n, c, h1, h2, h3.imp id fun ⟨gi, e1, e2, e3, e4, e5⟩ => ⟨gi, e1, e2, e3, Nat.lt_of_lt_of_le e4 hb.size, fun j hj => ?_⟩⟩
  rw [hb.cell (p := ⟨gi, j, none⟩) e4, World.frozen?_of_block (a := ⟨gi, j, none⟩) (hb.block gi e4)]
  exact e5 j hj

/-- What is said of the cells of a row alone. -/
structure Lst (W mo : Nat) (er : Option Nat) (m : Nat) (L : List Value) (M : Value → Prop) : Prop where
  len : L.length = m * W
  one : ∀ u ∈ L, u.oneCell' = true
  meta_ : ∀ i, i < m → ∃ u, L[i * W + mo]? = some u ∧ M u
  err : ∀ o, er = some o → ∀ i, i < m → ∃ z, L[i * W + o]? = some (.int .i64 z)
theorem Lst.snoc {W mo : Nat} {er : Option Nat} {m : Nat} {L N : List Value} {M : Value → Prop} (h : Lst W mo er m L M) (hN : N.length = W) (hone : ∀ u ∈ N, u.oneCell' = true) (hmo : mo < W) {u : Value} (hu : N[mo]? = some u) (hM : M u)
    (he : ∀ o, er = some o → o < W ∧ ∃ z, N[o]? = some (.int .i64 z)) : Lst W mo er (m + 1) (L ++ N) M := by
  have hl := h.len
  have at_ : ∀ i o, i < m → o < W → (L ++ N)[i * W + o]? = L[i * W + o]? := fun i o hi ho => by
    have : i * W + o < m * W := by
      have : (i + 1) * W ≤ m * W := Nat.mul_le_mul_right _ hi
      rw [Nat.succ_mul] at this
      omega
    rw [List.getElem?_append_left (by omega)]
  have new : ∀ o, (L ++ N)[m * W + o]? = N[o]? := fun o => by
    rw [List.getElem?_append_right (by omega), hl]
    congr 1
    omega
  refine ⟨by rw [List.length_append, hl, hN, Nat.succ_mul], fun v hv => (List.mem_append.1 hv).elim (h.one v) (hone v), fun i hi => ?_, fun o ho i hi => ?_⟩
  · by_cases h1 : i < m
    · rw [at_ i mo h1 hmo]; exact h.meta_ i h1
    · rw [show i = m by omega, new]; exact ⟨u, hu, hM⟩
  · by_cases h1 : i < m
    · rw [at_ i o h1 (he o ho).1]; exact h.err o ho i h1
    · rw [show i = m by omega, new]; exact (he o ho).2

/-- A row that an append has made anew. -/
theorem fresh_row {W mo : Nat} {er : Option Nat} {B : Nat} {e : TypeId} {v' : Value} {m : Nat} {L : List Value} {w w' : World} (hB : B ≤ w.heap.size) (hown : w'.ownsRow w.heap.size e W v' (m + 1) L) (hg : w.grownBy w' none)
    (hL : Lst W mo er (m + 1) L fun u => ∀ g, w.heap.size ≤ g → MetaC B g u w) : RowV W mo er B v' (m + 1) w' := by
  have hb : Below w.heap.size w w' := ⟨hg.os, hg.tape, hg.output, hg.size, fun k hk => hg.block k hk (fun e => by cases e)⟩
  rcases hown.2 with ⟨_, h0⟩ | ⟨g, cap, cur, e1, e2, e3, e4, _, e5, e6⟩
  · omega
  · refine .inr ⟨g, cap, L, e1, by omega, lt_of_some e3, e4, hL.len, fun j u hu => ?_, hL.one, fun j hj => ?_, fun i hi => ?_, hL.err⟩
    · rw [← e6] at hu
      rw [List.getElem?_take] at hu
      split at hu
      · rw [Lib.cell_of_heap e3]
        simpa using hu
      · cases hu
    · obtain ⟨k1, k2⟩ := cell_blk (j := j) e3 (by omega)
      exact ⟨by rw [k1]; rfl, k2⟩
    · obtain ⟨u, h1, h2⟩ := hL.meta_ i hi
      exact ⟨u, h1, (h2 g e2).below hb⟩

theorem setCells_size (g : Nat) : ∀ (vs : List Value) (o : Nat) (w : World), (w.setCells g o vs).heap.size = w.heap.size
  | [], _, _ => rfl
  | v :: r, o, w => by
    rw [World.setCells, setCells_size g r]
    simp [World.setCell]
theorem setCells_below {N0 g : Nat} (h : N0 ≤ g) : ∀ (vs : List Value) (o : Nat) (w : World), Below N0 w (w.setCells g o vs)
  | [], _, _ => Below.refl _ _
  | v :: r, o, w => ((Below.refl N0 w).setCell (p := ⟨g, o, none⟩) h v).trans (setCells_below h r (o + 1) _)
theorem setCells_frozen (g : Nat) : ∀ (vs : List Value) (o : Nat) (w : World) (a : Addr), (w.setCells g o vs).frozen? a = w.frozen? a
  | [], _, _, _ => rfl
  | v :: r, o, w, a => by
    rw [World.setCells, setCells_frozen g r]
    unfold World.frozen? World.setCell
    simp only [Array.getElem?_modify]
    by_cases h : g = a.block
    · subst h
      rw [if_pos rfl]
      cases w.heap[a.block]? with
      | none => rfl
      | some ob => cases ob <;> rfl
    · rw [if_neg h]


theorem metaC_setCells {B g : Nat} {u : Value} {w : World} (h : MetaC B g u w) (vs : List Value) (o : Nat) : MetaC B g u (w.setCells g o vs) := by
  obtain ⟨a, n, c, h1, h2, h3⟩ := h
  refine ⟨a, n, c, h1, h2, h3.imp id fun ⟨gi, e1, e2, e3, e4, e5⟩ => ⟨gi, e1, e2, e3, by rw [setCells_size]; exact e4, fun j hj => ?_⟩⟩
  rw [setCells_frozen, World.cell?_setCells_out _ _ _ _ _ (fun e : gi = g => absurd e e3)]
  exact e5 j hj

/-- One more is appended. -/
theorem wpList_row {P : Program} (w : World) {ops : Array Oper} {rest : List Oper} {o : Oper} {a : Act} {Q : Exit → Act → World → Prop}
    (hg : o.guard = none) (s x : Operand) (t : TypeId) (hop : o.op = Op.call { callee := Callee.builtin Builtin.append, args := #[s, x], argTypes := #[t, t] })
    (e : TypeId) (i : TypeInfo) (z : Value) (W bytes : Nat) (h1 : P.underlying t = some (.slice e)) (h2 : P.info? e = some i) (h3 : i.zero = some z) (h4 : i.size = W) (h5 : i.bytes = bytes) (h6 : z.cells.size = W) (h7 : 0 < W)
    {mo : Nat} {er : Option Nat} {B B2 : Nat} {v : Value} {m : Nat} (hs : a.eval s = v) (hv : RowV W mo er B v m w) (hB : B ≤ w.heap.size) (hB2 : ∀ g c, v = .slice (some ⟨g, 0, none⟩) m c → g < B2)
    (ad : Addr) (c : Nat) (N : List Value) (hx : a.eval x = .slice (some ad) 1 c) (hN : N.length = W) (hc : ∀ j u, N[j]? = some u → w.cell? (ad.add j) = some u) (hone : ∀ u ∈ N, u.oneCell' = true)
    (hmo : mo < W) {u : Value} (hu : N[mo]? = some u) (hM : MetaN B B2 u w) (he : ∀ o, er = some o → o < W ∧ ∃ z, N[o]? = some (.int .i64 z)) (b1 : m + 1 ≤ maxLen) (b2 : (m + 1) * bytes ≤ 140737488355328)
    (h : ∀ v' w', RowV W mo er B v' (m + 1) w' → Below B w w' → wpList P ops Q rest (a.put o.dst v') w') :
    wpList P ops Q (o :: rest) a w := by
  rcases hv with ⟨rfl, rfl⟩ | ⟨g, cap, L, rfl, hR⟩
  · refine wpList_append_own w hg s x t hop w.heap.size e i z W bytes h1 h2 h3 h4 h5 h6 h7 _ 0 [] hs (World.ownsRow_nil _ _ _ _) ad 1 c N hx (by omega) hc hone b1 b2 (Nat.le_refl _) fun v' w' hown hgrow _ => ?_
    rw [List.nil_append] at hown
    have hL : Lst W mo er 0 [] (fun u => ∀ g, w.heap.size ≤ g → MetaC B g u w) := ⟨by simp, fun _ h => (by cases h), fun _ h => absurd h (Nat.not_lt_zero _), fun _ _ _ h => absurd h (Nat.not_lt_zero _)⟩
    have hL2 := hL.snoc hN hone hmo hu (fun g hg => hM.at_ (.inr hg)) he
    rw [List.nil_append] at hL2
    exact h _ _ (fresh_row hB hown hgrow hL2) ⟨hgrow.os, hgrow.tape, hgrow.output, hgrow.size, fun k hk => hgrow.block k (by omega) (fun e => by cases e)⟩
  · have hgB := hB2 g cap rfl
    have hlen := hR.len
    refine wpList_append_arg w hg s x t hop e i z W bytes h1 h2 h3 h4 h5 h6 h7 g 0 m cap L hs hlen (fun j u hu => by rw [Nat.zero_add]; exact hR.cells j u hu) ad 1 c N hx (by omega) hc hone (fun hr j hj => ?_) b1 b2 (fun hr => ?_) (fun hr v' w' hown hgrow => ?_)
    · have : (m + 1) * W ≤ cap * W := Nat.mul_le_mul_right _ hr
      rw [Nat.succ_mul] at this
      have := hR.spare (m * W + j) (by omega)
      rw [Nat.zero_add]
      exact this
    · have hcw : (m + 1) * W ≤ cap * W := Nat.mul_le_mul_right _ hr
      rw [Nat.succ_mul] at hcw
      have hsome : ∀ k, k < N.length → (w.cell? ⟨g, 0 + m * W + k, none⟩).isSome = true := fun k hk => (by rw [Nat.zero_add]; exact (hR.spare (m * W + k) (by omega)).1)
      have hL : Lst W mo er m L (fun u => MetaC B g u w) := ⟨hlen, hR.one, hR.meta_, hR.err⟩
      have hL2 := hL.snoc hN hone hmo hu (hM.at_ (.inl hgB)) he
      refine h _ _ (.inr ⟨g, cap, L ++ N, rfl, hR.base, by rw [setCells_size]; exact hR.lt, hr, hL2.len, fun j u hu => ?_, hL2.one, fun j hj => ?_, fun i hi => ?_, hL2.err⟩) (setCells_below hR.base _ _ _)
      · by_cases hj : j < m * W
        · rw [List.getElem?_append_left (by omega)] at hu
          rw [World.cell?_setCells_out _ _ _ _ _ (fun _ _ => .inl (by show j < 0 + m * W; omega))]
          exact hR.cells j u hu
        · rw [List.getElem?_append_right (by omega), hlen] at hu
          have hlt := (List.getElem?_eq_some_iff.1 hu).1
          have := World.cell?_setCells_in g N (0 + m * W) w hsome (j - m * W) hlt
          rw [show 0 + m * W + (j - m * W) = j by omega] at this
          rw [this, ← hu, List.getElem?_eq_getElem hlt]
      · rw [setCells_frozen]
        refine ⟨World.isSome_setCells g N _ w _ (hR.spare j hj).1, (hR.spare j hj).2⟩
      · obtain ⟨u, e1, e2⟩ := hL2.meta_ i hi
        exact ⟨u, e1, metaC_setCells e2 _ _⟩
    · have hL : Lst W mo er m L (fun u => ∀ g', w.heap.size ≤ g' → MetaC B g' u w) := ⟨hlen, hR.one, fun i hi => (hR.meta_ i hi).imp fun u hu => ⟨hu.1, fun g' hg' => hu.2.other hg'⟩, hR.err⟩
      have hL2 := hL.snoc hN hone hmo hu (fun g hg => hM.at_ (.inr hg)) he
      exact h _ _ (fresh_row hB hown hgrow hL2) ⟨hgrow.os, hgrow.tape, hgrow.output, hgrow.size, fun k hk => hgrow.block k (by omega) (fun e => by cases e)⟩

/-! ### a variable of one's own, written whole -/

theorem there_fresh (w : World) (Z : Array Value) (t : TypeId) {n : Nat} (h : n ≤ Z.size) : (w.alloc (.cells Z t (0, 0))).there w.heap.size 0 n := fun j hj => by
  have hb : (w.alloc (.cells Z t (0, 0))).heap[w.heap.size]? = some (.cells Z t (0, 0)) := by
    show (w.heap.push _)[w.heap.size]? = _
    rw [Array.getElem?_push_size]
  obtain ⟨k1, k2⟩ := cell_blk (j := 0 + j) hb (by omega)
  exact ⟨by rw [k1]; rfl, k2⟩
theorem store_fresh (w : World) (Z : Array Value) (t : TypeId) (cs : List Value) (h : cs.length ≤ Z.size) : ∃ W, (w.alloc (.cells Z t (0, 0))).setCells w.heap.size 0 cs = W ∧ W.rangeAt w.heap.size 0 cs ∧ W.there w.heap.size 0 cs.length ∧ Below w.heap.size w W ∧ W.heap.size = w.heap.size + 1 := by
  have ht := there_fresh w Z t h
  refine ⟨_, rfl, World.rangeAt_setCells_same _ _ _ _ ht, World.there_setCells ht _ _ _, ((Below.refl _ w).alloc (Nat.le_refl _) _).trans (setCells_below (Nat.le_refl _) _ _ _), ?_⟩
  rw [setCells_size]
  show (w.heap.push _).size = _
  rw [Array.size_push]
theorem rangeAt_below {w w' : World} {b o : Nat} {cs : List Value} (h : w.rangeAt b o cs) (hb : Below w.heap.size w w') (hlt : b < w.heap.size) : w'.rangeAt b o cs := fun j v hv => (hb.cell (p := ⟨b, o + j, none⟩) hlt).trans (h j v hv)
theorem there_below {w w' : World} {b o n : Nat} (h : w.there b o n) (hb : Below w.heap.size w w') (hlt : b < w.heap.size) : w'.there b o n := fun j hj => by
  rw [hb.cell (p := ⟨b, o + j, none⟩) hlt, World.frozen?_of_block (a := ⟨b, o + j, none⟩) (hb.block b hlt)]
  exact h j hj

end Go.Proofs.Ytdoilggfajngiaa
